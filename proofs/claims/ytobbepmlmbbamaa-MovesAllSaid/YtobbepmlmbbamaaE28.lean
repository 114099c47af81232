/-
 The texts Rx.
-/
import Derived.Test.YtobbepmlmbbamaaE25
import Derived.Test.YtobbepmlmbbamaaE26
import Derived.Test.YtobbepmlmbbamaaE27
set_option linter.unusedVariables false
set_option linter.unusedSimpArgs false
section
namespace Go.Proofs.Ytobbepmlmbbamaa
open Go Go.RowKit
attribute [local go_sem ↓] Go.wp_at_zero Go.wp_at_succ
theorem rpoke_range (base n q cp cq:Nat) (A B:Option Addr) (lp k x y s:Int) (o:Bool) (ss:List Int) (l:List Nat) (r:Pl.Dg) (mv:Mv) (w:World) (h:Own2 base w (.slice A n cp) (.slice B q cq) n q ss l) (hn:n ≤ 1000) (hin:¬ inR n ⟨3,x,y,s,o⟩) :
 Calls Try.prog 55 #[.agg #[.slice A n cp,.slice B q cq,.int .i64 lp],.agg #[.int .i64 k,.int .i64 x,.int .i64 y,.int .i64 s,.bool o]] w (RC base 2 r mv w) := by
 have hin':¬ (-2 ≤ x ∧ x < 4 * n ∧ -2 ≤ y ∧ y < 4 * n ∧ (if x ≠ y then s = 0 else if x < 0 then s = 0 ∨ s = 1 else s = 1 ∨ s = -1)):=fun e => hin (by unfold inR; simp; simpa using e)
 rcases Int.lt_or_le x (-2) with h1 | h1
 ·exact rpk_r1 base n q cp cq A B lp k x y s o ss l r mv w h hn (by simp; omega)
 rcases Int.lt_or_le x (4 * n) with h2 | h2
 rotate_left
 ·exact rpk_r2 base n q cp cq A B lp k x y s o ss l r mv w h hn (by simp; omega) (by simp; omega)
 rcases Int.lt_or_le y (-2) with h3 | h3
 ·exact rpk_r3 base n q cp cq A B lp k x y s o ss l r mv w h hn (by simp; omega) (by simp; omega) (by simp; omega)
 rcases Int.lt_or_le y (4 * n) with h4 | h4
 rotate_left
 ·exact rpk_r4 base n q cp cq A B lp k x y s o ss l r mv w h hn (by simp; omega) (by simp; omega) (by simp; omega) (by simp; omega)
 rcases Int.lt_or_le s (-1) with h5 | h5
 ·exact rpk_r5 base n q cp cq A B lp k x y s o ss l r mv w h hn (by simp; omega) (by simp; omega) (by simp; omega) (by simp; omega) (by simp; omega)
 rcases Int.lt_or_le 1 s with h6 | h6
 ·exact rpk_r6 base n q cp cq A B lp k x y s o ss l r mv w h hn (by simp; omega) (by simp; omega) (by simp; omega) (by simp; omega) (by simp; omega) (by simp; omega)
 have hs3:s = 0 ∨ s = 1 ∨ s = -1:=by omega
 by_cases hxy:x = y
 ·by_cases hx:x < 0
  ·rcases hs3 with rfl | rfl | rfl
   ·exact absurd ⟨h1,h2,h3,h4,by rw [if_neg (fun c => c hxy),if_pos hx]; exact .inl rfl⟩ hin'
   ·exact absurd ⟨h1,h2,h3,h4,by rw [if_neg (fun c => c hxy),if_pos hx]; exact .inr rfl⟩ hin'
   ·exact rpk_r7 base n q cp cq A B lp k x y o ss l r mv w h hn (by simp; omega) (by simp; omega) (by simp; omega) (by simp; omega) (by rw [bne_eq_false_iff_eq]; exact hxy) (by rw [beq_iff_eq]; exact hxy) (by simp; omega) (by simp; omega)
  ·rcases hs3 with rfl | rfl | rfl
   ·exact rpk_r8 base n q cp cq A B lp k x y o ss l r mv w h hn (by simp; omega) (by simp; omega) (by simp; omega) (by simp; omega) (by rw [bne_eq_false_iff_eq]; exact hxy) (by rw [beq_iff_eq]; exact hxy) (by simp; omega) (by simp; omega)
   ·exact absurd ⟨h1,h2,h3,h4,by rw [if_neg (fun c => c hxy),if_neg hx]; exact .inl rfl⟩ hin'
   ·exact absurd ⟨h1,h2,h3,h4,by rw [if_neg (fun c => c hxy),if_neg hx]; exact .inr rfl⟩ hin'
 ·rcases hs3 with rfl | rfl | rfl
  ·exact absurd ⟨h1,h2,h3,h4,by rw [if_pos hxy]⟩ hin'
  ·exact rpk_r9 base n q cp cq A B lp k x y o ss l r mv w h hn (by simp; omega) (by simp; omega) (by simp; omega) (by simp; omega) (by rw [bne_iff_ne]; exact hxy) (by rw [beq_eq_false_iff_ne]; exact hxy) hxy
  ·exact rpk_r10 base n q cp cq A B lp k x y o ss l r mv w h hn (by simp; omega) (by simp; omega) (by simp; omega) (by simp; omega) (by rw [bne_iff_ne]; exact hxy) (by rw [beq_eq_false_iff_ne]; exact hxy) hxy
end Go.Proofs.Ytobbepmlmbbamaa
end
