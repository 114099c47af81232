/-
  Walks: the small functions of diagram and moves.
-/
import Derived.Test.YtobbepmlmbbamaaRows
import Derived.Test.YtobbepmlmbbamaaMem
import Derived.BigQuiet
import Derived.Deep.QuietTactic
import Derived.Deep.Light
namespace Go.Proofs.Ytobbepmlmbbamaa
open Go.RowKit

theorem turn_back (h : Nat) (w : World) (hh : h ≤ 1000000) :
    Calls Try.prog 108 #[.int .i64 (h : Int), .int .i64 (-1)] w fun e w' => e = .returned (.int .i64 (Pl.tn h 3 : Nat)) ∧ w = w' := by
  go_enter Try.func108, Try.ntmps108
  go_wp2
  go_ret
  exact ⟨ret_int (by unfold Pl.tn; omega), rfl⟩
theorem turn_opp (h : Nat) (w : World) (hh : h ≤ 1000000) :
    Calls Try.prog 108 #[.int .i64 (h : Int), .int .i64 2] w fun e w' => e = .returned (.int .i64 (Pl.tn h 2 : Nat)) ∧ w = w' := by
  go_enter Try.func108, Try.ntmps108
  go_wp2
  go_ret
  exact ⟨ret_int (by unfold Pl.tn; omega), rfl⟩
theorem opposite_any (h : Nat) (w : World) (hh : h ≤ 1000000) :
    Calls Try.prog 121 #[.int .i64 (h : Int)] w fun e w' => e = .returned (.int .i64 (Pl.tn h 2 : Nat)) ∧ w = w' := by
  go_enter Try.func121, Try.ntmps121
  go_wp2_with fail
  refine (turn_opp h _ hh).mono ?_
  rintro e w1 ⟨rfl, rfl⟩
  go_wp2
  go_ret
  exact ⟨rfl, rfl⟩

theorem out_zero {d : Pl.Dg} {h : Nat} (e : h % 4 = 0) : Pl.out d h = false := by unfold Pl.out; simp [e]
theorem out_one {d : Pl.Dg} {h : Nat} (e : h % 4 = 1) : Pl.out d h = (d.s (h / 4) == 1) := by unfold Pl.out; simp [e]
theorem out_two {d : Pl.Dg} {h : Nat} (e : h % 4 = 2) : Pl.out d h = true := by unfold Pl.out; simp [e]
theorem out_three {d : Pl.Dg} {h : Nat} (e : h % 4 = 3) : Pl.out d h = (d.s (h / 4) == -1) := by unfold Pl.out; simp [e]

/-- The first 'outgoing'. -/
theorem out_any (d : Pl.Dg) (A B : Option Addr) (cp q cq : Nat) (l : Value) (h : Nat) (w : World) (hh : h < 4 * d.n) (hn : d.n ≤ 1000) (hs : IntsAt w A d.n d.sg) :
    Calls Try.prog 58 #[.agg #[.slice A d.n cp, .slice B q cq, l], .int .i64 (h : Int)] w fun e w' => e = .returned (.bool (Pl.out d h)) ∧ Below w.heap.size w w' := by
  obtain ⟨b, o, rfl, hc⟩ := sign_at hs (c := h / 4) (by omega)
  have hb : Below w.heap.size w (w.alloc (.cells #[.slice (some ⟨b, o, none⟩) d.n cp, .slice B q cq, l] 24)) := (Below.refl _ _).alloc (Nat.le_refl _) _
  have hc2 := cell_below hc hb
  go_enter Try.func58, Try.ntmps58
  go_wp2
  all_goals
    go_ret
    refine ⟨ret_bool ?_, hb⟩
    simp only [beq_iff_eq, beq_eq_false_iff_ne, ne_eq] at *
  · rw [out_one (by omega)]
  · rw [out_two (by omega)]
  · rw [out_three (by omega)]
  · rw [out_zero (by omega)]

theorem out_n (d : Pl.Dg) (A B : Option Addr) (n cp q cq : Nat) (l : Value) (h : Nat) (w : World) (e : n = d.n) (hh : h < 4 * n) (hn : n ≤ 1000) (hs : IntsAt w A n d.sg) :
    Calls Try.prog 58 #[.agg #[.slice A n cp, .slice B q cq, l], .int .i64 (h : Int)] w fun e w' => e = .returned (.bool (Pl.out d h)) ∧ Below w.heap.size w w' := by
  subst e; exact out_any d A B cp q cq l h w hh hn hs
/-- The second. -/
theorem out2_any (d : Pl.Dg) (A B : Option Addr) (cp q cq : Nat) (l : Value) (h : Nat) (w : World) (hh : h < 4 * d.n) (hn : d.n ≤ 1000) (hs : IntsAt w A d.n d.sg) :
    Calls Try.prog 119 #[.agg #[.slice A d.n cp, .slice B q cq, l], .int .i64 (h : Int)] w fun e w' => e = .returned (.bool (Pl.out d h)) ∧ Below w.heap.size w w' := by
  obtain ⟨b, o, rfl, hc⟩ := sign_at hs (c := h / 4) (by omega)
  have hb : Below w.heap.size w (w.alloc (.cells #[.slice (some ⟨b, o, none⟩) d.n cp, .slice B q cq, l] 24)) := (Below.refl _ _).alloc (Nat.le_refl _) _
  have hc2 := cell_below hc hb
  go_enter Try.func119, Try.ntmps119
  go_wp2
  all_goals
    go_ret
    refine ⟨ret_bool ?_, hb⟩
  · rw [out_two (by omega)]
  · rename_i e1
    rw [out_one (by omega)]; try simp [e1]
  · rename_i e1
    rw [out_one (by omega)]; try simp [e1]
  · rw [out_three (by omega)]
  · rw [out_zero (by omega)]; simp; omega
theorem out2_n (d : Pl.Dg) (A B : Option Addr) (n cp q cq : Nat) (l : Value) (h : Nat) (w : World) (e : n = d.n) (hh : h < 4 * n) (hn : n ≤ 1000) (hs : IntsAt w A n d.sg) :
    Calls Try.prog 119 #[.agg #[.slice A n cp, .slice B q cq, l], .int .i64 (h : Int)] w fun e w' => e = .returned (.bool (Pl.out d h)) ∧ Below w.heap.size w w' := by
  subst e; exact out2_any d A B cp q cq l h w hh hn hs
/-- The next half-edge of a face. -/
theorem next_any (d : Pl.Dg) (B : Option Addr) (cq : Nat) (h : Nat) (w : World) (hh : h < 4 * d.n) (hn : d.n ≤ 1000) (hm : IntsAt w B (4 * d.n) (nats d.mt)) (hlt : d.m h < 4 * d.n) :
    Calls Try.prog 95 #[.slice B (4 * d.n) cq, .int .i64 (h : Int)] w fun e w' => e = .returned (.int .i64 (Pl.nx d h : Nat)) ∧ w = w' := by
  obtain ⟨b, o, rfl, hc⟩ := mate_at hm hh
  go_enter Try.func95, Try.ntmps95
  go_wp2_with fail
  refine (turn_back _ _ (by omega)).mono ?_
  rintro e w1 ⟨rfl, rfl⟩
  go_wp2
  go_ret
  exact ⟨rfl, rfl⟩
end Go.Proofs.Ytobbepmlmbbamaa
