/-
  Walks: a kink is added.
-/
import Derived.Test.YtobbepmlmbbamaaWe
namespace Go.Proofs.Ytobbepmlmbbamaa
open Go.RowKit

theorem bcell {W w1 : World} (hb : Below W.heap.size W w1) : (∀ b o, b < W.heap.size → w1.cell? ⟨b, o, none⟩ = W.cell? ⟨b, o, none⟩) ∧ (∀ b o, b < W.heap.size → w1.frozen? ⟨b, o, none⟩ = W.frozen? ⟨b, o, none⟩) :=
  ⟨fun b o h => hb.cell (p := ⟨b, o, none⟩) h, fun b o h => hb.frozen (p := ⟨b, o, none⟩) h⟩
/-- A move, as its value. -/
structure Mv where
  kind : Int
  x : Int
  y : Int
  sign : Int
  over : Bool
def Mv.v (m : Mv) : Value := .agg #[.int .i64 m.kind, .int .i64 m.x, .int .i64 m.y, .int .i64 m.sign, .bool m.over]

/-- What curlable answers. -/
def fullC (n k : Nat) : Int := if 64 < n + k then 5 else 0
def curlableC (d : Pl.Dg) (x : Int) : Int := if x < 0 then (if d.lp = 0 then 6 else fullC d.n 1) else if Pl.out d x.toNat = true then fullC d.n 1 else 6
set_option maxRecDepth 100000 in
set_option maxHeartbeats 2000000 in
theorem curlable_any (d : Pl.Dg) (A B : Option Addr) (cp cq : Nat) (k x y sg : Int) (ov : Bool) (w : World) (hg : DgAt w A B d) (hn : d.n ≤ 64) (hlp : d.lp ≤ 64) (hx : -1 ≤ x ∧ x < 4 * d.n) :
    Calls Try.prog 77 #[.agg #[.slice A d.n cp, .slice B (4 * d.n) cq, .int .i64 d.lp], .agg #[.int .i64 k, .int .i64 x, .int .i64 y, .int .i64 sg, .bool ov]] w fun e w' => e = .returned (.int .i64 (curlableC d x)) ∧ Below w.heap.size w w' := by
  obtain ⟨m, hm⟩ : ∃ m, m = 4 * d.n := ⟨_, rfl⟩
  rw [← hm]
  have HM := hide hm
  clear hm
  have b0 : Below w.heap.size w ((w.alloc (.cells #[.slice A d.n cp, .slice B m cq, .int .i64 d.lp] 24)).alloc (.cells #[.int .i64 k, .int .i64 x, .int .i64 y, .int .i64 sg, .bool ov] 28)) := ((Below.refl _ _).alloc (Nat.le_refl _) _).alloc (by simp) _
  have HS := hide (hg.s.keep b0)
  clear hg
  by_cases hx0 : 0 ≤ x
  · obtain ⟨q, rfl⟩ := Int.eq_ofNat_of_zero_le hx0
    have hq : q < 4 * d.n := by omega
    have t1 : decide (0 ≤ (q : Int)) = true := by simp
    go_enter Try.func77, Try.ntmps77
    go_wp2_with fail
    refine (out2_n d A B d.n cp m cq (.int .i64 d.lp) q _ rfl hq (by omega) HS.out).mono ?_
    rintro e w1 ⟨rfl, hb1⟩
    have b1 := b0.trans (hb1.mono b0.size)
    obtain ⟨hc, hf⟩ := bcell hb1
    have hsz : w.heap.size + 1 < w1.heap.size := by have := hb1.size; simp at this; omega
    have e0 : curlableC d (q : Int) = if Pl.out d q = true then fullC d.n 1 else 6 := by unfold curlableC; rw [if_neg (by omega), Int.toNat_natCast]
    have E0 := hide e0
    clear e0
    clear t1
    go_wp2
    all_goals
      go_ret
      refine ⟨ret_int ?_, b1⟩
      rw [E0.out]
      unfold fullC
      repeat' split
      all_goals first | omega | (exfalso; first | omega | (simp_all; done))
  · go_enter Try.func77, Try.ntmps77
    go_wp2
    all_goals
      go_ret
      refine ⟨ret_int ?_, b0⟩
      unfold curlableC fullC
      rw [if_pos (by omega)]
      simp only [beq_iff_eq, beq_eq_false_iff_ne, ne_eq] at *
      repeat' split
      all_goals omega
theorem curlable_m (d : Pl.Dg) (A B : Option Addr) (cp cq m : Nat) (k x y sg : Int) (ov : Bool) (w : World) (hm : m = 4 * d.n) (hg : DgAt w A B d) (hn : d.n ≤ 64) (hlp : d.lp ≤ 64) (hx : -1 ≤ x ∧ x < 4 * d.n) :
    Calls Try.prog 77 #[.agg #[.slice A d.n cp, .slice B m cq, .int .i64 d.lp], .agg #[.int .i64 k, .int .i64 x, .int .i64 y, .int .i64 sg, .bool ov]] w fun e w' => e = .returned (.int .i64 (curlableC d x)) ∧ Below w.heap.size w w' := by
  subst hm; exact curlable_any d A B cp cq k x y sg ov w hg hn hlp hx
end Go.Proofs.Ytobbepmlmbbamaa
