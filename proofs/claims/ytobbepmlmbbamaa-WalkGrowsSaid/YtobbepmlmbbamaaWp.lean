/-
  Walks: near, pokeable.
-/
import Derived.Test.YtobbepmlmbbamaaWo
import Derived.Test.YtobbepmlmbbamaaWm
set_option linter.unusedVariables false
set_option linter.unusedSimpArgs false
namespace Go.Proofs.Ytobbepmlmbbamaa
open Go Go.RowKit

/-- A diagram with the numbers of its faces and of its parts, as a value. -/
def sheetV (A B L R : Option Addr) (n m : Nat) (lp : Int) (cp cq cl cr : Nat) : Value := .agg #[.slice A n cp, .slice B m cq, .int .i64 lp, .slice L m cl, .slice R n cr]
def nearB (F R : List Nat) (d : Pl.Dg) (x y : Nat) : Bool := (F.getD x 0 == F.getD y 0 || R.getD (x / 4) 0 != R.getD (y / 4) 0) && d.m x != y
structure ShAt (w : World) (A B L R : Option Addr) (d : Pl.Dg) (F P : List Nat) : Prop where
  dg : DgAt w A B d
  l : IntsAt w L (4 * d.n) (nats F)
  p : IntsAt w R d.n (nats P)
theorem ShAt.keep {w w' : World} {A B L R : Option Addr} {d : Pl.Dg} {F P : List Nat} (h : ShAt w A B L R d F P) (hb : Below w.heap.size w w') : ShAt w' A B L R d F P := ⟨h.dg.keep hb, h.l.keep hb, h.p.keep hb⟩
set_option maxRecDepth 100000 in
set_option maxHeartbeats 2000000 in
theorem near_any (d : Pl.Dg) (F P : List Nat) (A B L R : Option Addr) (cp cq cl cr m x y : Nat) (w : World) (hm : m = 4 * d.n) (hs : ShAt w A B L R d F P) (hn : d.n ≤ 64) (hx : x < 4 * d.n) (hy : y < 4 * d.n) :
    Calls Try.prog 114 #[sheetV A B L R d.n m d.lp cp cq cl cr, .int .i64 (x : Int), .int .i64 (y : Int)] w fun e w' => e = .returned (.bool (nearB F P d x y)) ∧ Below w.heap.size w w' := by
  unfold sheetV
  have b0 : Below w.heap.size w (w.alloc (.cells #[.slice A d.n cp, .slice B m cq, .int .i64 d.lp, .slice L m cl, .slice R d.n cr] 64)) := (Below.refl _ _).alloc (Nat.le_refl _) _
  obtain ⟨W, hW⟩ : ∃ W, W = w.alloc (.cells #[.slice A d.n cp, .slice B m cq, .int .i64 d.lp, .slice L m cl, .slice R d.n cr] 64) := ⟨_, rfl⟩
  have BX := hide (show Row W w.heap.size 64 [.slice A d.n cp, .slice B m cq, .int .i64 d.lp, .slice L m cl, .slice R d.n cr] by rw [hW]; exact Row.new w _ [_, _, _, _, _])
  rw [← hW] at b0
  have B0 := hide b0
  have HS := hide (hs.keep b0)
  have HM := hide hm
  have HW := hide hW
  clear b0 hs hW
  obtain ⟨b1, o1, rfl, c1⟩ := nats_at HS.out.l (k := x) hx
  obtain ⟨b1', o1', e1, c2⟩ := nats_at HS.out.l (k := y) hy
  injection e1 with e1
  injection e1 with e11 e12
  subst e11
  subst e12
  obtain ⟨b2, o2, rfl, c3⟩ := nats_at HS.out.p (k := x / 4) (by omega)
  obtain ⟨b2', o2', e2, c4⟩ := nats_at HS.out.p (k := y / 4) (by omega)
  injection e2 with e2
  injection e2 with e21 e22
  subst e21
  subst e22
  obtain ⟨b3, o3, rfl, c5⟩ := mate_at HS.out.dg.m (k := x) hx
  have ix : (0 : Int) ≤ (x : Int) := by omega
  have iy : (0 : Int) ≤ (y : Int) := by omega
  have jx : (x : Int) < (m : Int) := by omega
  have jy : (y : Int) < (m : Int) := by omega
  have kx : (0 : Int) ≤ (x : Int) / 4 := by omega
  have ky : (0 : Int) ≤ (y : Int) / 4 := by omega
  have lx : (x : Int) / 4 < (d.n : Int) := by omega
  have ly : (y : Int) / 4 < (d.n : Int) := by omega
  clear hm
  obtain ⟨p, hp⟩ : ∃ p, p = F.getD x 0 := ⟨_, rfl⟩
  obtain ⟨q, hq⟩ : ∃ q, q = F.getD y 0 := ⟨_, rfl⟩
  obtain ⟨r, hr⟩ : ∃ r, r = P.getD (x / 4) 0 := ⟨_, rfl⟩
  obtain ⟨s, hss⟩ : ∃ s, s = P.getD (y / 4) 0 := ⟨_, rfl⟩
  obtain ⟨u, hu⟩ : ∃ u, u = d.m x := ⟨_, rfl⟩
  have E := hide (show nearB F P d x y = ((p == q || r != s) && u != y) by unfold nearB; rw [hp, hq, hr, hss, hu])
  rw [← hp] at c1
  rw [← hq] at c2
  rw [← hr] at c3
  rw [← hss] at c4
  rw [← hu] at c5
  clear hp hq hr hss hu
  go_enter Try.func114, Try.ntmps114
  go_wp2_with fail
  rw [← HW.out]
  obtain ⟨f0, f1, f2, f3, f4, f5⟩ := box5 BX.out
  by_cases h1 : p = q
  · have E2 := hide (show nearB F P d x y = (u != y) by rw [E.out, h1]; simp)
    have t1 : ((p : Int) == (q : Int)) = true := by rw [beq_iff_eq]; omega
    have E3 := hide (show (((u : Nat) : Int) != ((y : Nat) : Int)) = (u != y) by rw [Bool.eq_iff_iff]; simp; omega)
    clear h1
    go_wp2_with fail
    go_quiet (fail)
    go_wp2
    go_ret
    refine ⟨?_, below_drewN B0.out _⟩
    rw [E2.out]
    exact ret_bool E3.out
  · have t1 : ((p : Int) == (q : Int)) = false := by rw [beq_eq_false_iff_ne]; omega
    by_cases h2 : r = s
    · have E2 := hide (show nearB F P d x y = false by rw [E.out, h2]; simp [h1])
      have t2 : ((r : Int) != (s : Int)) = false := by rw [bne_eq_false_iff_eq]; omega
      clear h1 h2
      go_wp2_with fail
      go_quiet (fail)
      go_wp2
      go_ret
      refine ⟨?_, below_drewN B0.out _⟩
      rw [E2.out]
      rfl
    · have E2 := hide (show nearB F P d x y = (u != y) by rw [E.out]; simp [h1, h2])
      have t2 : ((r : Int) != (s : Int)) = true := by rw [bne_iff_ne]; omega
      have E3 := hide (show (((u : Nat) : Int) != ((y : Nat) : Int)) = (u != y) by rw [Bool.eq_iff_iff]; simp; omega)
      clear h1 h2
      go_wp2_with fail
      go_quiet (fail)
      go_wp2
      go_ret
      refine ⟨?_, below_drewN B0.out _⟩
      rw [E2.out]
      exact ret_bool E3.out
end Go.Proofs.Ytobbepmlmbbamaa
