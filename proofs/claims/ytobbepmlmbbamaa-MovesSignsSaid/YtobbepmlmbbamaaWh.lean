/-
  Walks: closed.
-/
import Derived.Test.YtobbepmlmbbamaaWg
namespace Go.Proofs.Ytobbepmlmbbamaa
open Go.RowKit

/-- What closed answers. -/
def ClosedPost (l : List Nat) (base g n cap a b : Nat) (w : World) (e : Ending) (w' : World) : Prop :=
  e = .returned (.int .i64 (if l.getD a 0 = b then 1 else 0)) ∧ OwnN w' base g n cap (if l.getD a 0 = b then l else jn l (l.getD a 0) (l.getD b 0)) ∧ w.grownBy w' (some g)
theorem grown_refl (w : World) (r : Option Nat) : w.grownBy w r := ⟨rfl, rfl, rfl, Nat.le_refl _, fun _ _ _ => rfl⟩
theorem grown_drew {w W w' : World} {r : Option Nat} (e : W = w.drew) (h : W.grownBy w' r) : w.grownBy w' r := by subst e; exact ⟨h.os, h.tape, h.output, h.size, h.block⟩
set_option maxRecDepth 100000 in
set_option maxHeartbeats 1000000 in
theorem closed_any (base g n cap a b : Nat) (l : List Nat) (w : World) (h : OwnN w base g n cap l) (ha : a < n) (hb : b < n) (hn : n ≤ 100000) (hl : ∀ k, k < n → l.getD k 0 < n) :
    Calls Try.prog 81 #[.slice (some ⟨g, 0, none⟩) n cap, .int .i64 (a : Int), .int .i64 (b : Int)] w (ClosedPost l base g n cap a b w) := by
  have c1 := h.cell ha
  have c2 := h.cell hb
  have la := hl a ha
  have lb := hl b hb
  obtain ⟨x, hx⟩ : ∃ x, x = l.getD a 0 := ⟨_, rfl⟩
  obtain ⟨y, hy⟩ : ∃ y, y = l.getD b 0 := ⟨_, rfl⟩
  rw [← hx] at c1 la
  rw [← hy] at c2 lb
  have HH := hide h
  have HX := hide hx
  have HY := hide hy
  clear h hx hy
  go_enter Try.func81, Try.ntmps81
  by_cases hxb : x = b
  · subst hxb
    go_wp2
    go_ret
    refine ⟨ret_int ?_, ?_, grown_refl _ _⟩
    · rw [if_pos HX.out.symm]
    · rw [if_pos HX.out.symm]; exact HH.out
  · have t1 : ((x : Int) == (b : Int)) = false := by rw [beq_eq_false_iff_ne]; omega
    have i1 : (a : Int) < (n : Int) := by omega
    have i2 : (b : Int) < (n : Int) := by omega
    have i3 : (0 : Int) ≤ (a : Int) := by omega
    have i4 : (0 : Int) ≤ (b : Int) := by omega
    go_wp2_with fail
    go_still_tail 9, (by kernel_rfl)
    change wpList _ _ _ _ _ w.drew
    obtain ⟨W6, hW6⟩ : ∃ W6 : World, W6 = w.drew := ⟨_, rfl⟩
    rw [← hW6]
    have O6 := hide (OwnN.drew' hW6 HH.out)
    have HW := hide hW6
    clear hW6 c1 c2
    go_wp2_with fail
    refine (join_any base g n cap x y l W6 O6.out la lb hn).mono ?_
    rintro e w5 ⟨rfl, own5, gr5⟩
    have OWN5 := hide own5
    have GR5 := hide gr5
    clear own5 gr5
    go_wp2_with fail
    go_ret
    have hne : ¬ l.getD a 0 = b := by rw [← HX.out]; exact hxb
    refine ⟨ret_int ?_, ?_, grown_drew HW.out GR5.out⟩
    · rw [if_neg hne]
    · rw [if_neg hne, ← HX.out, ← HY.out]; exact OWN5.out
end Go.Proofs.Ytobbepmlmbbamaa
