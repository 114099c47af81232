/-
 The texts Rv.
-/
import Derived.Test.YtobbepmlmbbamaaE15
set_option linter.unusedVariables false
set_option linter.unusedSimpArgs false
section
namespace Go.Proofs.Ytobbepmlmbbamaa
open Go Go.RowKit
attribute [local go_sem ↓] Go.wp_at_zero Go.wp_at_succ
set_option maxRecDepth 100000 in
set_option maxHeartbeats 4000000 in
theorem runpoke_range (base n q cp cq:Nat) (A B:Option Addr) (lp k x y s:Int) (o:Bool) (ss:List Int) (l:List Nat) (r:Pl.Dg) (mv:Mv) (w:World) (h:Own2 base w (.slice A n cp) (.slice B q cq) n q ss l) (hn:n ≤ 1000) (hin:¬ inR n ⟨4,x,y,s,o⟩) :
 Calls Try.prog 56 #[.agg #[.slice A n cp,.slice B q cq,.int .i64 lp],.agg #[.int .i64 k,.int .i64 x,.int .i64 y,.int .i64 s,.bool o]] w (RC base 2 r mv w) := by
 have hin':¬ (0 ≤ x ∧ x < y ∧ y < n ∧ s = 0 ∧ o = false):=fun e => hin (by unfold inR; simp; exact e)
 have BE:=hide (show Below base w ((((w.alloc (.cells #[.slice A n cp,.slice B q cq,.int .i64 lp] 24)).alloc (.cells #[.int .i64 k,.int .i64 x,.int .i64 y,.int .i64 s,.bool o] 28)).alloc (.cells #[.slice A n cp,.slice B q cq,.int .i64 lp] 24)).alloc (.cells #[.int .i64 k,.int .i64 x,.int .i64 y,.int .i64 s,.bool o] 28)).drew from (((((Below.refl w.heap.size w).alloc (Nat.le_refl _) _).alloc (by simp) _).alloc (by simp; omega) _).alloc (by simp; omega) _).drew.mono h.le)
 clear hin h
 by_cases h1:0 ≤ x
 ·skip
  have t1:decide (x < 0) = false:=by simp; omega
  by_cases h2:y < n
  ·skip
   have t2:decide ((n:Int) ≤ y) = false:=by simp; omega
   by_cases h3:x < y
   ·skip
    have t3:decide (y ≤ x) = false:=by simp; omega
    by_cases h4:s = 0
    ·skip
     have t4:(s != 0) = false:=by simpa using h4
     cases o with
     | false => exact absurd (by refine ⟨?_,?_,?_,?_,?_⟩ <;> first | omega | rfl | assumption) hin'
     | true =>
       clear h1 h2 h3 h4 hin'
       go_enter Try.func56,Try.ntmps56
       go_wp2_with fail
       go_region
       go_wp2_with fail
       refine bodyPost_ret (v := .tuple #[.agg #[.slice A n cp,.slice B q cq,.int .i64 lp],.agg #[.int .i64 k,.int .i64 x,.int .i64 y,.int .i64 s,.bool true],.int .i64 2]) (by simp [results,Try.results56,go_sem]) rfl ?_
       exact rc_err (by decide) ⟨A,B,n,q,cp,cq,lp,k,x,y,s,true,rfl⟩ BE.out
    ·have t4:(s != 0) = true:=by rw [bne_iff_ne]; exact h4
     clear h1 h2 h3 h4 hin'
     go_enter Try.func56,Try.ntmps56
     go_wp2_with fail
     go_region
     go_wp2_with fail
     refine bodyPost_ret (v := .tuple #[.agg #[.slice A n cp,.slice B q cq,.int .i64 lp],.agg #[.int .i64 k,.int .i64 x,.int .i64 y,.int .i64 s,.bool o],.int .i64 2]) (by simp [results,Try.results56,go_sem]) rfl ?_
     exact rc_err (by decide) ⟨A,B,n,q,cp,cq,lp,k,x,y,s,o,rfl⟩ BE.out
   ·have t3:decide (y ≤ x) = true:=by simp; omega
    clear h1 h2 h3 hin'
    go_enter Try.func56,Try.ntmps56
    go_wp2_with fail
    go_region
    go_wp2_with fail
    refine bodyPost_ret (v := .tuple #[.agg #[.slice A n cp,.slice B q cq,.int .i64 lp],.agg #[.int .i64 k,.int .i64 x,.int .i64 y,.int .i64 s,.bool o],.int .i64 2]) (by simp [results,Try.results56,go_sem]) rfl ?_
    exact rc_err (by decide) ⟨A,B,n,q,cp,cq,lp,k,x,y,s,o,rfl⟩ BE.out
  ·have t2:decide ((n:Int) ≤ y) = true:=by simp; omega
   clear h1 h2 hin'
   go_enter Try.func56,Try.ntmps56
   go_wp2_with fail
   go_region
   go_wp2_with fail
   refine bodyPost_ret (v := .tuple #[.agg #[.slice A n cp,.slice B q cq,.int .i64 lp],.agg #[.int .i64 k,.int .i64 x,.int .i64 y,.int .i64 s,.bool o],.int .i64 2]) (by simp [results,Try.results56,go_sem]) rfl ?_
   exact rc_err (by decide) ⟨A,B,n,q,cp,cq,lp,k,x,y,s,o,rfl⟩ BE.out
 ·have t1:decide (x < 0) = true:=by simp; omega
  clear h1 hin'
  go_enter Try.func56,Try.ntmps56
  go_wp2_with fail
  go_region
  go_wp2_with fail
  refine bodyPost_ret (v := .tuple #[.agg #[.slice A n cp,.slice B q cq,.int .i64 lp],.agg #[.int .i64 k,.int .i64 x,.int .i64 y,.int .i64 s,.bool o],.int .i64 2]) (by simp [results,Try.results56,go_sem]) rfl ?_
  exact rc_err (by decide) ⟨A,B,n,q,cp,cq,lp,k,x,y,s,o,rfl⟩ BE.out
set_option maxRecDepth 100000 in
set_option maxHeartbeats 4000000 in
theorem rslide_range (base n q cp cq:Nat) (A B:Option Addr) (lp k x y s:Int) (o:Bool) (ss:List Int) (l:List Nat) (r:Pl.Dg) (mv:Mv) (w:World) (h:Own2 base w (.slice A n cp) (.slice B q cq) n q ss l) (hn:n ≤ 1000) (hq:q = 4 * n) (hin:¬ inR n ⟨5,x,y,s,o⟩) :
 Calls Try.prog 57 #[.agg #[.slice A n cp,.slice B q cq,.int .i64 lp],.agg #[.int .i64 k,.int .i64 x,.int .i64 y,.int .i64 s,.bool o]] w (RC base 2 r mv w) := by
 have hin':¬ (0 ≤ x ∧ x < q ∧ y = 0 ∧ s = 0 ∧ o = false):=fun e => hin (by unfold inR; simp; exact ⟨e.1,by omega,e.2.2⟩)
 have BE:=hide (show Below base w ((((w.alloc (.cells #[.slice A n cp,.slice B q cq,.int .i64 lp] 24)).alloc (.cells #[.int .i64 k,.int .i64 x,.int .i64 y,.int .i64 s,.bool o] 28)).alloc (.cells #[.slice A n cp,.slice B q cq,.int .i64 lp] 24)).alloc (.cells #[.int .i64 k,.int .i64 x,.int .i64 y,.int .i64 s,.bool o] 28)).drew from (((((Below.refl w.heap.size w).alloc (Nat.le_refl _) _).alloc (by simp) _).alloc (by simp; omega) _).alloc (by simp; omega) _).drew.mono h.le)
 clear hin h hq
 by_cases h1:0 ≤ x
 ·skip
  have t1:decide (x < 0) = false:=by simp; omega
  by_cases h2:x < q
  ·skip
   have t2:decide ((q:Int) ≤ x) = false:=by simp; omega
   by_cases h3:y = 0
   ·skip
    have t3:(y != 0) = false:=by simpa using h3
    by_cases h4:s = 0
    ·skip
     have t4:(s != 0) = false:=by simpa using h4
     cases o with
     | false => exact absurd (by refine ⟨?_,?_,?_,?_,?_⟩ <;> first | omega | rfl | assumption) hin'
     | true =>
       clear h1 h2 h3 h4 hin'
       go_enter Try.func57,Try.ntmps57
       go_wp2_with fail
       go_region
       go_wp2_with fail
       refine bodyPost_ret (v := .tuple #[.agg #[.slice A n cp,.slice B q cq,.int .i64 lp],.agg #[.int .i64 k,.int .i64 x,.int .i64 y,.int .i64 s,.bool true],.int .i64 2]) (by simp [results,Try.results57,go_sem]) rfl ?_
       exact rc_err (by decide) ⟨A,B,n,q,cp,cq,lp,k,x,y,s,true,rfl⟩ BE.out
    ·have t4:(s != 0) = true:=by rw [bne_iff_ne]; exact h4
     clear h1 h2 h3 h4 hin'
     go_enter Try.func57,Try.ntmps57
     go_wp2_with fail
     go_region
     go_wp2_with fail
     refine bodyPost_ret (v := .tuple #[.agg #[.slice A n cp,.slice B q cq,.int .i64 lp],.agg #[.int .i64 k,.int .i64 x,.int .i64 y,.int .i64 s,.bool o],.int .i64 2]) (by simp [results,Try.results57,go_sem]) rfl ?_
     exact rc_err (by decide) ⟨A,B,n,q,cp,cq,lp,k,x,y,s,o,rfl⟩ BE.out
   ·have t3:(y != 0) = true:=by rw [bne_iff_ne]; exact h3
    clear h1 h2 h3 hin'
    go_enter Try.func57,Try.ntmps57
    go_wp2_with fail
    go_region
    go_wp2_with fail
    refine bodyPost_ret (v := .tuple #[.agg #[.slice A n cp,.slice B q cq,.int .i64 lp],.agg #[.int .i64 k,.int .i64 x,.int .i64 y,.int .i64 s,.bool o],.int .i64 2]) (by simp [results,Try.results57,go_sem]) rfl ?_
    exact rc_err (by decide) ⟨A,B,n,q,cp,cq,lp,k,x,y,s,o,rfl⟩ BE.out
  ·have t2:decide ((q:Int) ≤ x) = true:=by simp; omega
   clear h1 h2 hin'
   go_enter Try.func57,Try.ntmps57
   go_wp2_with fail
   go_region
   go_wp2_with fail
   refine bodyPost_ret (v := .tuple #[.agg #[.slice A n cp,.slice B q cq,.int .i64 lp],.agg #[.int .i64 k,.int .i64 x,.int .i64 y,.int .i64 s,.bool o],.int .i64 2]) (by simp [results,Try.results57,go_sem]) rfl ?_
   exact rc_err (by decide) ⟨A,B,n,q,cp,cq,lp,k,x,y,s,o,rfl⟩ BE.out
 ·have t1:decide (x < 0) = true:=by simp; omega
  clear h1 hin'
  go_enter Try.func57,Try.ntmps57
  go_wp2_with fail
  go_region
  go_wp2_with fail
  refine bodyPost_ret (v := .tuple #[.agg #[.slice A n cp,.slice B q cq,.int .i64 lp],.agg #[.int .i64 k,.int .i64 x,.int .i64 y,.int .i64 s,.bool o],.int .i64 2]) (by simp [results,Try.results57,go_sem]) rfl ?_
  exact rc_err (by decide) ⟨A,B,n,q,cp,cq,lp,k,x,y,s,o,rfl⟩ BE.out
end Go.Proofs.Ytobbepmlmbbamaa
end
