/-
 The texts Rxb.
-/
import Derived.Test.YtobbepmlmbbamaaE15
set_option linter.unusedVariables false
set_option linter.unusedSimpArgs false
section
namespace Go.Proofs.Ytobbepmlmbbamaa
open Go Go.RowKit
attribute [local go_sem ↓] Go.wp_at_zero Go.wp_at_succ
set_option maxRecDepth 100000 in
set_option maxHeartbeats 4000000 in
theorem rpk_r5 (base n q cp cq:Nat) (A B:Option Addr) (lp k x y s:Int) (o:Bool) (ss:List Int) (l:List Nat) (r:Pl.Dg) (mv:Mv) (w:World) (h:Own2 base w (.slice A n cp) (.slice B q cq) n q ss l) (hn:n ≤ 1000) (t1:decide (x < -2) = false) (t2:decide (4 * (n:Int) ≤ x) = false) (t3:decide (y < -2) = false) (t4:decide (4 * (n:Int) ≤ y) = false) (t5:decide (s < -1) = true) :
 Calls Try.prog 55 #[.agg #[.slice A n cp,.slice B q cq,.int .i64 lp],.agg #[.int .i64 k,.int .i64 x,.int .i64 y,.int .i64 s,.bool o]] w (RC base 2 r mv w) := by
 have BE:=hide (show Below base w ((((w.alloc (.cells #[.slice A n cp,.slice B q cq,.int .i64 lp] 24)).alloc (.cells #[.int .i64 k,.int .i64 x,.int .i64 y,.int .i64 s,.bool o] 28)).alloc (.cells #[.slice A n cp,.slice B q cq,.int .i64 lp] 24)).alloc (.cells #[.int .i64 k,.int .i64 x,.int .i64 y,.int .i64 s,.bool o] 28)).drew from (((((Below.refl w.heap.size w).alloc (Nat.le_refl _) _).alloc (by simp) _).alloc (by simp; omega) _).alloc (by simp; omega) _).drew.mono h.le)
 clear h
 go_enter Try.func55,Try.ntmps55
 go_upto_region 2 with fail
 simp only [List.append_eq,List.cons_append,List.nil_append]
 go_wp2_with fail
 all_goals go_region
 all_goals (go_wp2_with fail)
 all_goals (refine bodyPost_ret (v := .tuple #[.agg #[.slice A n cp,.slice B q cq,.int .i64 lp],.agg #[.int .i64 k,.int .i64 x,.int .i64 y,.int .i64 s,.bool o],.int .i64 2]) (by simp [results,Try.results55,go_sem]) rfl ?_; exact rc_err (by decide) ⟨A,B,n,q,cp,cq,lp,k,x,y,s,o,rfl⟩ BE.out)
set_option maxRecDepth 100000 in
set_option maxHeartbeats 4000000 in
theorem rpk_r6 (base n q cp cq:Nat) (A B:Option Addr) (lp k x y s:Int) (o:Bool) (ss:List Int) (l:List Nat) (r:Pl.Dg) (mv:Mv) (w:World) (h:Own2 base w (.slice A n cp) (.slice B q cq) n q ss l) (hn:n ≤ 1000) (t1:decide (x < -2) = false) (t2:decide (4 * (n:Int) ≤ x) = false) (t3:decide (y < -2) = false) (t4:decide (4 * (n:Int) ≤ y) = false) (t5:decide (s < -1) = false) (t6:decide (1 < s) = true) :
 Calls Try.prog 55 #[.agg #[.slice A n cp,.slice B q cq,.int .i64 lp],.agg #[.int .i64 k,.int .i64 x,.int .i64 y,.int .i64 s,.bool o]] w (RC base 2 r mv w) := by
 have BE:=hide (show Below base w ((((w.alloc (.cells #[.slice A n cp,.slice B q cq,.int .i64 lp] 24)).alloc (.cells #[.int .i64 k,.int .i64 x,.int .i64 y,.int .i64 s,.bool o] 28)).alloc (.cells #[.slice A n cp,.slice B q cq,.int .i64 lp] 24)).alloc (.cells #[.int .i64 k,.int .i64 x,.int .i64 y,.int .i64 s,.bool o] 28)).drew from (((((Below.refl w.heap.size w).alloc (Nat.le_refl _) _).alloc (by simp) _).alloc (by simp; omega) _).alloc (by simp; omega) _).drew.mono h.le)
 clear h
 go_enter Try.func55,Try.ntmps55
 go_upto_region 2 with fail
 simp only [List.append_eq,List.cons_append,List.nil_append]
 go_wp2_with fail
 all_goals go_region
 all_goals (go_wp2_with fail)
 all_goals (refine bodyPost_ret (v := .tuple #[.agg #[.slice A n cp,.slice B q cq,.int .i64 lp],.agg #[.int .i64 k,.int .i64 x,.int .i64 y,.int .i64 s,.bool o],.int .i64 2]) (by simp [results,Try.results55,go_sem]) rfl ?_; exact rc_err (by decide) ⟨A,B,n,q,cp,cq,lp,k,x,y,s,o,rfl⟩ BE.out)
set_option maxRecDepth 100000 in
set_option maxHeartbeats 4000000 in
theorem rpk_r7 (base n q cp cq:Nat) (A B:Option Addr) (lp k x y:Int) (o:Bool) (ss:List Int) (l:List Nat) (r:Pl.Dg) (mv:Mv) (w:World) (h:Own2 base w (.slice A n cp) (.slice B q cq) n q ss l) (hn:n ≤ 1000) (t1:decide (x < -2) = false) (t2:decide (4 * (n:Int) ≤ x) = false) (t3:decide (y < -2) = false) (t4:decide (4 * (n:Int) ≤ y) = false) (t5:(x != y) = false) (t6:(x == y) = true) (t7:decide (x < 0) = true) (t8:decide (0 ≤ x) = false) :
 Calls Try.prog 55 #[.agg #[.slice A n cp,.slice B q cq,.int .i64 lp],.agg #[.int .i64 k,.int .i64 x,.int .i64 y,.int .i64 (-1),.bool o]] w (RC base 2 r mv w) := by
 have BE:=hide (show Below base w ((((w.alloc (.cells #[.slice A n cp,.slice B q cq,.int .i64 lp] 24)).alloc (.cells #[.int .i64 k,.int .i64 x,.int .i64 y,.int .i64 (-1),.bool o] 28)).alloc (.cells #[.slice A n cp,.slice B q cq,.int .i64 lp] 24)).alloc (.cells #[.int .i64 k,.int .i64 x,.int .i64 y,.int .i64 (-1),.bool o] 28)).drew from (((((Below.refl w.heap.size w).alloc (Nat.le_refl _) _).alloc (by simp) _).alloc (by simp; omega) _).alloc (by simp; omega) _).drew.mono h.le)
 clear h
 go_enter Try.func55,Try.ntmps55
 go_upto_region 2 with fail
 simp only [List.append_eq,List.cons_append,List.nil_append]
 go_wp2_with fail
 all_goals go_region
 all_goals (go_wp2_with fail)
 all_goals (refine bodyPost_ret (v := .tuple #[.agg #[.slice A n cp,.slice B q cq,.int .i64 lp],.agg #[.int .i64 k,.int .i64 x,.int .i64 y,.int .i64 (-1),.bool o],.int .i64 2]) (by simp [results,Try.results55,go_sem]) rfl ?_; exact rc_err (by decide) ⟨A,B,n,q,cp,cq,lp,k,x,y,(-1),o,rfl⟩ BE.out)
set_option maxRecDepth 100000 in
set_option maxHeartbeats 4000000 in
theorem rpk_r8 (base n q cp cq:Nat) (A B:Option Addr) (lp k x y:Int) (o:Bool) (ss:List Int) (l:List Nat) (r:Pl.Dg) (mv:Mv) (w:World) (h:Own2 base w (.slice A n cp) (.slice B q cq) n q ss l) (hn:n ≤ 1000) (t1:decide (x < -2) = false) (t2:decide (4 * (n:Int) ≤ x) = false) (t3:decide (y < -2) = false) (t4:decide (4 * (n:Int) ≤ y) = false) (t5:(x != y) = false) (t6:(x == y) = true) (t7:decide (x < 0) = false) (t8:decide (0 ≤ x) = true) :
 Calls Try.prog 55 #[.agg #[.slice A n cp,.slice B q cq,.int .i64 lp],.agg #[.int .i64 k,.int .i64 x,.int .i64 y,.int .i64 0,.bool o]] w (RC base 2 r mv w) := by
 have BE:=hide (show Below base w ((((w.alloc (.cells #[.slice A n cp,.slice B q cq,.int .i64 lp] 24)).alloc (.cells #[.int .i64 k,.int .i64 x,.int .i64 y,.int .i64 0,.bool o] 28)).alloc (.cells #[.slice A n cp,.slice B q cq,.int .i64 lp] 24)).alloc (.cells #[.int .i64 k,.int .i64 x,.int .i64 y,.int .i64 0,.bool o] 28)).drew from (((((Below.refl w.heap.size w).alloc (Nat.le_refl _) _).alloc (by simp) _).alloc (by simp; omega) _).alloc (by simp; omega) _).drew.mono h.le)
 clear h
 go_enter Try.func55,Try.ntmps55
 go_upto_region 2 with fail
 simp only [List.append_eq,List.cons_append,List.nil_append]
 go_wp2_with fail
 all_goals go_region
 all_goals (go_wp2_with fail)
 all_goals (refine bodyPost_ret (v := .tuple #[.agg #[.slice A n cp,.slice B q cq,.int .i64 lp],.agg #[.int .i64 k,.int .i64 x,.int .i64 y,.int .i64 0,.bool o],.int .i64 2]) (by simp [results,Try.results55,go_sem]) rfl ?_; exact rc_err (by decide) ⟨A,B,n,q,cp,cq,lp,k,x,y,0,o,rfl⟩ BE.out)
end Go.Proofs.Ytobbepmlmbbamaa
end
