/-
  Walks: place, forward, near.
-/
import Derived.Test.YtobbepmlmbbamaaWcu
set_option linter.unusedVariables false
set_option linter.unusedSimpArgs false
namespace Go.Proofs.Ytobbepmlmbbamaa
open Go Go.RowKit

/-- The half-edge at a side. -/
def plc (c f s : Nat) : Nat := 4 * c + (s + 4 - f) % 4
theorem place_any (c f s : Nat) (w : World) (hc : c ≤ 1000) (hf : f < 4) (hs : s < 4) :
    Calls Try.prog 87 #[.int .i64 (c : Int), .int .i64 (f : Int), .int .i64 (s : Int)] w fun e w' => e = .returned (.int .i64 (plc c f s : Nat)) ∧ w' = w := by
  go_enter Try.func87, Try.ntmps87
  go_wp2
  go_ret
  exact ⟨ret_int (by unfold plc; omega), rfl⟩
theorem place_i (c f s : Int) (w : World) (hc : 0 ≤ c ∧ c ≤ 1000) (hf : 0 ≤ f ∧ f < 4) (hs : 0 ≤ s ∧ s < 4) :
    Calls Try.prog 87 #[.int .i64 c, .int .i64 f, .int .i64 s] w fun e w' => e = .returned (.int .i64 (plc c.toNat f.toNat s.toNat : Nat)) ∧ w' = w := by
  obtain ⟨a, rfl⟩ := Int.eq_ofNat_of_zero_le hc.1
  obtain ⟨b, rfl⟩ := Int.eq_ofNat_of_zero_le hf.1
  obtain ⟨k, rfl⟩ := Int.eq_ofNat_of_zero_le hs.1
  exact place_any a b k w (by omega) (by omega) (by omega)
/-- Is what is named travelled along its strand? -/
def fwd (d : Pl.Dg) (x : Int) : Bool := if x = -1 then true else if 0 ≤ x then Pl.out d x.toNat else false
theorem forward_any (d : Pl.Dg) (A B : Option Addr) (cp q cq : Nat) (l : Value) (x : Int) (w : World) (hx : x < 4 * (d.n : Int)) (hn : d.n ≤ 1000) (hs : IntsAt w A d.n d.sg) :
    Calls Try.prog 123 #[.agg #[.slice A d.n cp, .slice B q cq, l], .int .i64 x] w fun e w' => e = .returned (.bool (fwd d x)) ∧ Below w.heap.size w w' := by
  have b0 : Below w.heap.size w (w.alloc (.cells #[.slice A d.n cp, .slice B q cq, l] 24)) := (Below.refl _ _).alloc (Nat.le_refl _) _
  have B0 := hide b0
  have HS := hide hs
  clear b0 hs
  by_cases h1 : x = -1
  · subst h1
    go_enter Try.func123, Try.ntmps123
    go_wp2
    go_ret
    exact ⟨rfl, B0.out⟩
  · have t1 : (x == -1) = false := by rw [beq_eq_false_iff_ne]; exact h1
    have H1 := hide h1
    clear h1
    by_cases h2 : 0 ≤ x
    · obtain ⟨k, rfl⟩ := Int.eq_ofNat_of_zero_le h2
      have hk : k < 4 * d.n := by omega
      have t2 : decide (0 ≤ (k : Int)) = true := by simp
      go_enter Try.func123, Try.ntmps123
      go_wp2_with fail
      refine (out2_n d A B d.n cp q cq l k _ rfl hk hn (HS.out.keep B0.out)).mono ?_
      rintro e w1 ⟨rfl, hb1⟩
      have B1 := hide (B0.out.trans (hb1.mono B0.out.size))
      clear hb1
      have e1 : fwd d (k : Int) = Pl.out d k := by unfold fwd; rw [if_neg H1.out, if_pos h2, Int.toNat_natCast]
      have E1 := hide e1
      clear e1 t1 t2
      go_wp2
      go_ret
      exact ⟨by rw [E1.out]; rfl, B1.out⟩
    · have t2 : decide (0 ≤ x) = false := by simpa using h2
      have e1 : fwd d x = false := by unfold fwd; rw [if_neg H1.out, if_neg h2]
      have E1 := hide e1
      clear e1 h2
      go_enter Try.func123, Try.ntmps123
      go_wp2
      go_ret
      exact ⟨by rw [E1.out]; rfl, B0.out⟩
end Go.Proofs.Ytobbepmlmbbamaa
