/-
  Walks: kink.
-/
import Derived.Test.YtobbepmlmbbamaaWi
namespace Go.Proofs.Ytobbepmlmbbamaa
open Go.RowKit

theorem out2_i (d : Pl.Dg) (A B : Option Addr) (n cp q cq : Nat) (l : Value) (h : Int) (w : World) (e : n = d.n) (hh : 0 ≤ h ∧ h < 4 * (n : Int)) (hn : n ≤ 1000) (hs : IntsAt w A n d.sg) :
    Calls Try.prog 119 #[.agg #[.slice A n cp, .slice B q cq, l], .int .i64 h] w fun e w' => e = .returned (.bool (Pl.out d h.toNat)) ∧ Below w.heap.size w w' := by
  obtain ⟨k, rfl⟩ := Int.eq_ofNat_of_zero_le hh.1
  exact out2_n d A B n cp q cq l k w e (by omega) hn hs
theorem opp_i (h : Int) (w : World) (hh : 0 ≤ h ∧ h ≤ 1000000) :
    Calls Try.prog 121 #[.int .i64 h] w fun e w' => e = .returned (.int .i64 (Pl.tn h.toNat 2 : Nat)) ∧ w' = w := by
  obtain ⟨k, rfl⟩ := Int.eq_ofNat_of_zero_le hh.1
  refine (opposite_any k w (by omega)).mono ?_
  rintro e w' ⟨rfl, rfl⟩
  exact ⟨rfl, rfl⟩
theorem Pl.out_two' {d : Pl.Dg} {h : Nat} (e : h % 4 = 2) : Pl.out d h = true := out_two e
theorem below_drewN {B : Nat} {a w : World} (h : Below B a w) (n : Nat) : Below B a (w.drewN n) := ⟨h.os, h.tape, h.output, h.size, h.block⟩
/-- The outgoing half-edge at which a kink would begin. -/
def kk (d : Pl.Dg) (c : Nat) : Nat := if d.m (4 * c + 2) / 4 = c then 4 * c + 2 else if d.s c = 1 then 4 * c + 1 else 4 * c + 3
def isK (d : Pl.Dg) (c : Nat) : Prop := d.m (kk d c) / 4 = c
def kinkE (d : Pl.Dg) (c : Nat) (b : Bool) : Ending := if b then .returned (.tuple #[.int .i64 (Pl.tn (kk d c) 2 : Nat), .int .i64 (Pl.tn (d.m (kk d c)) 2 : Nat), .bool true]) else .returned (.tuple #[.int .i64 0, .int .i64 0, .bool false])
def KinkPost (d : Pl.Dg) (c : Nat) (w : World) (e : Ending) (w' : World) : Prop := e = kinkE d c (Pl.vb (isK d c)) ∧ Below w.heap.size w w'
theorem kink_at {d : Pl.Dg} {c o : Nat} {w : World} {e : Ending} {w' : World} (h : kk d c = o) (hm : d.m o / 4 = c) (he : e = .returned (.tuple #[.int .i64 (Pl.tn o 2 : Nat), .int .i64 (Pl.tn (d.m o) 2 : Nat), .bool true])) (hb : Below w.heap.size w w') : KinkPost d c w e w' := by
  refine ⟨?_, hb⟩
  rw [Pl.vb_true (show isK d c by unfold isK; rw [h]; exact hm)]
  unfold kinkE
  rw [if_pos rfl, h, he]
theorem kink_no {d : Pl.Dg} {c : Nat} {w : World} {e : Ending} {w' : World} (h : ¬ d.m (kk d c) / 4 = c) (he : e = .returned (.tuple #[.int .i64 0, .int .i64 0, .bool false])) (hb : Below w.heap.size w w') : KinkPost d c w e w' := by
  refine ⟨?_, hb⟩
  rw [Pl.vb_false (show ¬ isK d c from h)]
  exact he

set_option maxRecDepth 100000 in
set_option maxHeartbeats 2000000 in
theorem kink_any (d : Pl.Dg) (hd : Pl.Wf d) (A B : Option Addr) (cp cq m c : Nat) (w : World) (hm : m = 4 * d.n) (hg : DgAt w A B d) (hc : c < d.n) :
    Calls Try.prog 80 #[.agg #[.slice A d.n cp, .slice B m cq, .int .i64 d.lp], .int .i64 (c : Int)] w (KinkPost d c w) := by
  have hn := hd.few
  have HM := hide hm
  clear hm
  have hmm : m ≤ 256 := by have := HM.out; omega
  have HG := hide hg
  clear hg
  have x0 : Row (w.alloc (.cells #[.slice A d.n cp, .slice B m cq, .int .i64 d.lp] 24)) w.heap.size 24 [.slice A d.n cp, .slice B m cq, .int .i64 d.lp] := Row.new w _ _
  have X0 := hide x0
  have B0 := hide (show Below w.heap.size w (w.alloc (.cells #[.slice A d.n cp, .slice B m cq, .int .i64 d.lp] 24)) from (Below.refl _ _).alloc (Nat.le_refl _) _)
  clear x0
  go_enter Try.func80, Try.ntmps80
  go_wp2
  go_loopg [11] 3 (fun g i wx => ∃ k : Nat, k + g = 3 ∧ i = .int .i64 k ∧ (0 < k → ¬ d.m (4 * c + 2) / 4 = c) ∧ (1 < k → d.s c = 1 → ¬ d.m (4 * c + 1) / 4 = c) ∧ (2 < k → d.s c = -1 → ¬ d.m (4 * c + 3) / 4 = c) ∧ Below w.heap.size w wx ∧ Row wx w.heap.size 24 [.slice A d.n cp, .slice B m cq, .int .i64 d.lp])
  case atStart => exact ⟨0, rfl, rfl, fun h => absurd h (by omega), fun h => absurd h (by omega), fun h => absurd h (by omega), B0.out, X0.out⟩
  case round =>
    clear B0 X0
    obtain ⟨k, hkg, rfl, q0, q1, q2, b1, x1⟩ := hrel
    have HG0 := hide hkg
    have Q0 := hide q0
    have Q1 := hide q1
    have Q2 := hide q2
    have B1 := hide b1
    have X1 := hide x1
    have hk4 : k = 0 ∨ k = 1 ∨ k = 2 ∨ k = 3 := by omega
    obtain ⟨e0, e1, e2, e3⟩ := box3 x1
    have i0 : ∀ W, (Instr.index 118 (.agg #[.int .i64 2, .int .i64 1, .int .i64 3]) (.int .i64 0)).run Try.prog W = .ok (.int .i64 2) W := fun _ => by kernel_rfl
    have i1 : ∀ W, (Instr.index 118 (.agg #[.int .i64 2, .int .i64 1, .int .i64 3]) (.int .i64 1)).run Try.prog W = .ok (.int .i64 1) W := fun _ => by kernel_rfl
    have i2 : ∀ W, (Instr.index 118 (.agg #[.int .i64 2, .int .i64 1, .int .i64 3]) (.int .i64 2)).run Try.prog W = .ok (.int .i64 3) W := fun _ => by kernel_rfl
    clear hkg q0 q1 q2 b1 x1
    rcases hk4 with rfl | rfl | rfl | rfl
    · go_wp2_with fail
      refine (out2_i d A B d.n cp m cq (.int .i64 d.lp) _ _ rfl (by omega) (by omega) (HG.out.s.keep B1.out)).mono ?_
      rintro e w2 ⟨rfl, hb2⟩
      have B2 := hide (B1.out.trans (hb2.mono B1.out.size))
      have X2 := hide (X1.out.below hb2)
      have HG2 := hide (HG.out.keep B2.out)
      have et : (4 * (c : Int) + 2).toNat = 4 * c + 2 := by omega
      rw [et]
      clear et hb2
      obtain ⟨b, o, rfl, cm⟩ := mate_at HG2.out.m (k := 4 * c + 2) (by omega)
      obtain ⟨f0, f1, f2, f3⟩ := box3 X2.out
      have g1 : (0 : Int) ≤ 4 * (c : Int) + 2 := by omega
      have g2 : 4 * (c : Int) + 2 < (m : Int) := by have := HM.out; omega
      have lt := hd.lt (4 * c + 2) (by omega)
      obtain ⟨x, hx⟩ : ∃ x, x = d.m (4 * c + 2) := ⟨_, rfl⟩
      rw [← hx] at cm lt
      have HX := hide hx
      clear hx
      have hO : Pl.out d (4 * c + 2) = true := out_two (by omega)
      rw [hO]
      clear hO
      by_cases hk : x / 4 = c
      · have t1 : ((x : Int) / 4 == (c : Int)) = true := by rw [beq_iff_eq]; omega
        have HK := hide hk
        clear hk
        go_wp2_with fail
        go_quiet ((go_at_call 121; exact Calls.quiet_of_same (opp_i _ _ (by omega))))
        go_wp2
        go_ret3
        have hkk : kk d c = 4 * c + 2 := by unfold kk; rw [if_pos (by rw [← HX.out]; exact HK.out)]
        refine kink_at hkk (by rw [← HX.out]; exact HK.out) ?_ (below_drewN B2.out _)
        rw [← HX.out, show (4 * (c : Int) + 2).toNat = 4 * c + 2 by omega, Int.toNat_natCast]
        rfl
      · have t1 : ((x : Int) / 4 == (c : Int)) = false := by rw [beq_eq_false_iff_ne]; omega
        have HK := hide hk
        clear hk
        go_wp2
        go_roundg 2
        case measure => have := HG0.out; omega
        case rel => exact ⟨1, rfl, by go_num, fun _ => by rw [← HX.out]; exact HK.out, fun h => absurd h (by omega), fun h => absurd h (by omega), B2.out, X2.out⟩
    · go_wp2_with fail
      refine (out2_i d A B d.n cp m cq (.int .i64 d.lp) _ _ rfl (by omega) (by omega) (HG.out.s.keep B1.out)).mono ?_
      rintro e w2 ⟨rfl, hb2⟩
      have B2 := hide (B1.out.trans (hb2.mono B1.out.size))
      have X2 := hide (X1.out.below hb2)
      have HG2 := hide (HG.out.keep B2.out)
      have et : (4 * (c : Int) + 1).toNat = 4 * c + 1 := by omega
      rw [et]
      clear et hb2
      obtain ⟨b, o, rfl, cm⟩ := mate_at HG2.out.m (k := 4 * c + 1) (by omega)
      obtain ⟨f0, f1, f2, f3⟩ := box3 X2.out
      have g1 : (0 : Int) ≤ 4 * (c : Int) + 1 := by omega
      have g2 : 4 * (c : Int) + 1 < (m : Int) := by have := HM.out; omega
      have lt := hd.lt (4 * c + 1) (by omega)
      obtain ⟨x, hx⟩ : ∃ x, x = d.m (4 * c + 1) := ⟨_, rfl⟩
      rw [← hx] at cm lt
      have HX := hide hx
      clear hx
      by_cases hs1 : d.s c = 1
      · have S1 := hide hs1
        clear hs1
        have hO : Pl.out d (4 * c + 1) = true := by rw [out_one (by omega), show (4 * c + 1) / 4 = c by omega, S1.out]; rfl
        rw [hO]
        clear hO
        by_cases hk : x / 4 = c
        · have t1 : ((x : Int) / 4 == (c : Int)) = true := by rw [beq_iff_eq]; omega
          have HK := hide hk
          clear hk
          go_wp2_with fail
          go_quiet ((go_at_call 121; exact Calls.quiet_of_same (opp_i _ _ (by omega))))
          go_wp2
          go_ret3
          have hkk : kk d c = 4 * c + 1 := by unfold kk; rw [if_neg (Q0.out (by omega)), if_pos S1.out]
          refine kink_at hkk (by rw [← HX.out]; exact HK.out) ?_ (below_drewN B2.out _)
          rw [← HX.out, show (4 * (c : Int) + 1).toNat = 4 * c + 1 by omega, Int.toNat_natCast]
          rfl
        · have t1 : ((x : Int) / 4 == (c : Int)) = false := by rw [beq_eq_false_iff_ne]; omega
          have HK := hide hk
          clear hk
          go_wp2
          go_roundg 1
          case measure => have := HG0.out; omega
          case rel => exact ⟨2, rfl, by go_num, fun _ => Q0.out (by omega), fun _ _ => by rw [← HX.out]; exact HK.out, fun h => absurd h (by omega), B2.out, X2.out⟩
      · have S1 := hide hs1
        clear hs1
        have hO : Pl.out d (4 * c + 1) = false := by rw [out_one (by omega), show (4 * c + 1) / 4 = c by omega, beq_eq_false_iff_ne]; exact S1.out
        rw [hO]
        clear hO
        go_wp2
        go_roundg 1
        case measure => have := HG0.out; omega
        case rel => exact ⟨2, rfl, by go_num, fun _ => Q0.out (by omega), fun _ h => absurd h S1.out, fun h => absurd h (by omega), B2.out, X2.out⟩
    · go_wp2_with fail
      refine (out2_i d A B d.n cp m cq (.int .i64 d.lp) _ _ rfl (by omega) (by omega) (HG.out.s.keep B1.out)).mono ?_
      rintro e w2 ⟨rfl, hb2⟩
      have B2 := hide (B1.out.trans (hb2.mono B1.out.size))
      have X2 := hide (X1.out.below hb2)
      have HG2 := hide (HG.out.keep B2.out)
      have et : (4 * (c : Int) + 3).toNat = 4 * c + 3 := by omega
      rw [et]
      clear et hb2
      obtain ⟨b, o, rfl, cm⟩ := mate_at HG2.out.m (k := 4 * c + 3) (by omega)
      obtain ⟨f0, f1, f2, f3⟩ := box3 X2.out
      have g1 : (0 : Int) ≤ 4 * (c : Int) + 3 := by omega
      have g2 : 4 * (c : Int) + 3 < (m : Int) := by have := HM.out; omega
      have lt := hd.lt (4 * c + 3) (by omega)
      obtain ⟨x, hx⟩ : ∃ x, x = d.m (4 * c + 3) := ⟨_, rfl⟩
      rw [← hx] at cm lt
      have HX := hide hx
      clear hx
      by_cases hs1 : d.s c = -1
      · have S1 := hide hs1
        have S2 := hide (show ¬ d.s c = 1 by omega)
        clear hs1
        have hO : Pl.out d (4 * c + 3) = true := by rw [out_three (by omega), show (4 * c + 3) / 4 = c by omega, S1.out]; rfl
        rw [hO]
        clear hO
        by_cases hk : x / 4 = c
        · have t1 : ((x : Int) / 4 == (c : Int)) = true := by rw [beq_iff_eq]; omega
          have HK := hide hk
          clear hk
          go_wp2_with fail
          go_quiet ((go_at_call 121; exact Calls.quiet_of_same (opp_i _ _ (by omega))))
          go_wp2
          go_ret3
          have hkk : kk d c = 4 * c + 3 := by unfold kk; rw [if_neg (Q0.out (by omega)), if_neg S2.out]
          refine kink_at hkk (by rw [← HX.out]; exact HK.out) ?_ (below_drewN B2.out _)
          rw [← HX.out, show (4 * (c : Int) + 3).toNat = 4 * c + 3 by omega, Int.toNat_natCast]
          rfl
        · have t1 : ((x : Int) / 4 == (c : Int)) = false := by rw [beq_eq_false_iff_ne]; omega
          have HK := hide hk
          clear hk
          go_wp2
          go_roundg 0
          case measure => have := HG0.out; omega
          case rel => exact ⟨3, rfl, by go_num, fun _ => Q0.out (by omega), fun _ => Q1.out (by omega), fun _ _ => by rw [← HX.out]; exact HK.out, B2.out, X2.out⟩
      · have S1 := hide hs1
        clear hs1
        have hO : Pl.out d (4 * c + 3) = false := by rw [out_three (by omega), show (4 * c + 3) / 4 = c by omega, beq_eq_false_iff_ne]; exact S1.out
        rw [hO]
        clear hO
        go_wp2
        go_roundg 0
        case measure => have := HG0.out; omega
        case rel => exact ⟨3, rfl, by go_num, fun _ => Q0.out (by omega), fun _ => Q1.out (by omega), fun _ h => absurd h S1.out, B2.out, X2.out⟩
    · go_wp2
      go_ret3
      refine kink_no ?_ rfl B1.out
      unfold kk
      have h0 := Q0.out (by omega)
      rw [if_neg h0]
      rcases hd.sign c hc with h | h
      · rw [if_pos h]; exact Q1.out (by omega) h
      · rw [if_neg (by omega)]; exact Q2.out (by omega) h
end Go.Proofs.Ytobbepmlmbbamaa
