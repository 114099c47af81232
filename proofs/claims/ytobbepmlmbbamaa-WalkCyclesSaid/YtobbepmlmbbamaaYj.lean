/-
  Walks: the law that the numbers run through the choices again and again (WalkCycles).
-/
import Derived.Test.YtobbepmlmbbamaaYi
set_option linter.unusedVariables false
set_option linter.unusedSimpArgs false
namespace Go.Proofs.Ytobbepmlmbbamaa
open Go Go.RowKit
attribute [local go_sem ↓] Go.wp_at_zero Go.wp_at_succ

theorem cyc_num {i N : Nat} (r : Int) (h : i < N) : chI ((i : Int) + r * (N : Int)) N = i := by
  unfold chI
  have hN : (0 : Int) < N := by omega
  have e1 : ((i : Int) + r * (N : Int)).tmod N = (i : Int) ∨ ((i : Int) + r * (N : Int)).tmod N = (i : Int) - N := by
    by_cases h0 : (i : Int) + r * (N : Int) < 0
    · have e := Int.neg_tmod ((i : Int) + r * (N : Int)) (N : Int)
      have e2 : (-((i : Int) + r * (N : Int))).tmod N = (-((i : Int) + r * (N : Int))) % N := Int.tmod_eq_emod_of_nonneg (by omega)
      have e3 : (-((i : Int) + r * (N : Int))) % N = (-(i : Int)) % N := by
        rw [show -((i : Int) + r * (N : Int)) = -(i : Int) + (-r) * N by rw [Int.neg_mul]; omega, Int.add_mul_emod_self_right]
      rcases Nat.eq_zero_or_pos i with hi | hi
      · left
        subst hi
        have e5 : (-((0 : Nat) : Int)) % (N : Int) = 0 := by simp
        rw [e5] at e3
        omega
      · right
        have e4 : (-(i : Int)) % N = N - i := by
          rw [show -(i : Int) = ((N : Int) - i) + (-1) * N by omega, Int.add_mul_emod_self_right]
          exact Int.emod_eq_of_lt (by omega) (by omega)
        omega
    · left
      rw [Int.tmod_eq_emod_of_nonneg (by omega), Int.add_mul_emod_self_right]
      exact Int.emod_eq_of_lt (by omega) (by omega)
  rcases e1 with e | e
  · rw [e, Int.tmod_eq_emod_of_nonneg (by omega), show (i : Int) + N = i + 1 * N by omega, Int.add_mul_emod_self_right, Int.emod_eq_of_lt (by omega) (by omega)]
    omega
  · rw [e, show (i : Int) - N + N = i by omega, Int.tmod_eq_emod_of_nonneg (by omega), Int.emod_eq_of_lt (by omega) (by omega)]
    omega
theorem prod_bd {r : Int} {N : Nat} (h1 : -128 ≤ r) (h2 : r ≤ 127) (hN : N ≤ 500000) : -64000000 ≤ r * (N : Int) ∧ r * (N : Int) ≤ 64000000 := by
  have a : r * (N : Int) ≤ 128 * (N : Int) := Int.mul_le_mul_of_nonneg_right (by omega) (by omega)
  have b : (-128) * (N : Int) ≤ r * (N : Int) := Int.mul_le_mul_of_nonneg_right (by omega) (by omega)
  omega
set_option maxRecDepth 100000 in
set_option maxHeartbeats 8000000 in
theorem cycles_valid (d : Pl.Dg) (hd : Pl.Valid d) (A B : Option Addr) (cp cq m : Nat) (most r : Int) (w : World) (hm : m = 4 * d.n) (hg : DgAt w A B d) (hr : -128 ≤ r ∧ r ≤ 127) :
    Calls Try.prog 11 #[.agg #[.slice A d.n cp, .slice B m cq, .int .i64 d.lp], .int .i64 most, .int .i8 r] w fun e w' => e = .returned (.bool true) ∧ Below w.heap.size w w' := by
  have HM := hide hm
  have HG := hide hg
  have hn := hd.wf.few
  have hr1 := hr.1
  have hr2 := hr.2
  clear hm hg hr
  have X0 := hide (row_at (W := w) (g := w.heap.size) (t := 24) (vs := [.slice A d.n cp, .slice B m cq, .int .i64 (d.lp : Int)]) rfl)
  have B0 := hide (show Below w.heap.size w (w.alloc (.cells #[.slice A d.n cp, .slice B m cq, .int .i64 (d.lp : Int)] 24)) from (Below.refl _ _).alloc (Nat.le_refl _) _)
  go_enter Try.func11, Try.ntmps11
  go_wp2_with fail
  refine (awake11 _).mono ?_
  rintro e w1 ⟨rfl, hb1⟩
  have Y0 := hide (X0.out.below hb1)
  have B1 := hide (B0.out.trans (hb1.mono B0.out.size))
  clear X0 B0 hb1
  obtain ⟨d0, d1, d2, d3⟩ := box3 Y0.out
  go_wp2_with fail
  refine (great_any A B d.n m cp cq (d.lp : Int) w1).mono ?_
  rintro e w2 ⟨rfl, hb2⟩
  have Z0 := hide (Y0.out.below hb2)
  have B2 := hide (B1.out.trans (hb2.mono B1.out.size))
  clear Y0 B1 hb2 d0 d1 d2 d3
  obtain ⟨gb, hgb⟩ : ∃ b, b = grt d.n m (d.lp : Int) := ⟨_, rfl⟩
  rw [← hgb]
  clear hgb
  obtain ⟨d0, d1, d2, d3⟩ := box3 Z0.out
  cases gb with
  | true =>
    go_wp2
    go_ret
    exact ⟨rfl, B2.out⟩
  | false =>
    by_cases h3 : (3 : Int) < (d.n : Int)
    · go_wp2
      go_ret
      exact ⟨rfl, B2.out⟩
    · go_wp2_with fail
      refine (valid_yes d hd A B cp cq m _ HM.out (HG.out.keep B2.out)).mono ?_
      rintro e w3 ⟨rfl, hb3⟩
      have U0 := hide (Z0.out.below hb3)
      have B3 := hide (B2.out.trans (hb3.mono B2.out.size))
      clear Z0 B2 hb3 d0 d1 d2 d3
      obtain ⟨d0, d1, d2, d3⟩ := box3 U0.out
      go_wp2_with fail
      refine (kept_any d hd A B cp cq m most _ HM.out (HG.out.keep B3.out)).mono ?_
      rintro e w4 ⟨v, rfl, hv, hb4⟩
      have V0 := hide (U0.out.below hb4)
      have B4 := hide (B3.out.trans (hb4.mono B3.out.size))
      obtain ⟨A5, c5, rfl, hV⟩ := hv.at.mv
      have lch := chL_le hn most
      obtain ⟨L, hL⟩ : ∃ L, L = chL d most := ⟨_, rfl⟩
      rw [← hL] at hV lch ⊢
      obtain ⟨N5, hN5⟩ : ∃ n, n = L.length := ⟨_, rfl⟩
      rw [← hN5] at hV lch ⊢
      have HL := hide hL
      have HN5 := hide hN5
      have HV := hide hV
      obtain ⟨p, hp⟩ : ∃ p, p = r * (N5 : Int) := ⟨_, rfl⟩
      have hp1 : -64000000 ≤ p := by rw [hp]; exact (prod_bd hr1 hr2 lch).1
      have hp2 : p ≤ 64000000 := by rw [hp]; exact (prod_bd hr1 hr2 lch).2
      have hpe : r * (N5 : Int) = p := hp.symm
      have HPE := hide hpe
      clear hV hv hL hN5 hb4 hp U0 B3 d0 d1 d2 d3
      go_wp2
      go_loopg [8, 9, 10, 11, 34] N5 (fun g s8 s9 s10 s11 s34 wx => ∃ q : Nat, q + g = N5 ∧ s34 = .int .i64 (q : Int) ∧ Below w4.heap.size w4 wx)
      case atStart => exact ⟨0, by omega, rfl, Below.refl _ _⟩
      case round =>
        obtain ⟨q, hkg, rfl, hb⟩ := hrel
        have HB := hide hb
        have HKG := hide hkg
        clear hb
        by_cases hq : q < N5
        · have hqi : (q : Int) < (N5 : Int) := by omega
          have q0 : (0 : Int) ≤ (q : Int) := by omega
          obtain ⟨g5, zk, zx, zy, zs, zo, rfl, hgl, hz, c0, c1, c2, c3, c4⟩ := (HV.out.keep HB.out).at_ hq
          have HZ := hide hz
          obtain ⟨d0, d1, d2, d3⟩ := box3 (V0.out.below HB.out)
          have hw4 : w.heap.size < wr.heap.size := (V0.out.below HB.out).lt
          have b5 := (Below.refl wr.heap.size wr).alloc (Nat.le_refl _) (.cells #[.int .i64 zk, .int .i64 zx, .int .i64 zy, .int .i64 zs, .bool zo] 28)
          have R5 := hide ((V0.out.below HB.out).below b5)
          have B5 := hide (HB.out.trans (b5.mono HB.out.size))
          have M5 := hide (row_at (W := wr) (g := wr.heap.size) (t := 28) (vs := [.int .i64 zk, .int .i64 zx, .int .i64 zy, .int .i64 zs, .bool zo]) rfl)
          have D5 := hide (HG.out.keep (B4.out.trans (B5.out.mono B4.out.size)))
          clear hz hkg b5
          go_wp2_with fail
          refine (Choose_any d hd A B cp cq m ((q : Int) + p) most _ HM.out D5.out).mono ?_
          intro e w6 h6
          rw [← HL.out] at h6
          rcases h6.split with ⟨hL0, rfl, hb6⟩ | ⟨k', x', y', s', o', hz', rfl, hb6⟩
          · exfalso
            have hz := HZ.out
            rw [hL0] at hz
            cases hz
          · rw [← HN5.out, ← HPE.out, cyc_num r hq, HZ.out] at hz'
            obtain ⟨rfl, rfl, rfl, rfl, rfl⟩ : zk = k' ∧ zx = x' ∧ zy = y' ∧ zs = s' ∧ zo = o' := by simpa using hz'
            have M6 := hide (M5.out.below hb6)
            have B6 := hide (B5.out.trans (hb6.mono B5.out.size))
            have hw6 : wr.heap.size < w6.heap.size := M6.out.lt
            clear h6 hz' hb6 d0 d1 d2 d3 c0 c1 c2 c3 c4 R5
            obtain ⟨m0, m1, m2, m3, m4, m5⟩ := box5 M6.out
            go_wp2
            go_roundg (gk - 1)
            case measure => have := HKG.out; omega
            case rel => exact ⟨q + 1, by have := HKG.out; omega, by go_num, B6.out.alloc B6.out.size _⟩
        · have hqi : ¬ ((q : Int) < (N5 : Int)) := by omega
          clear hkg
          obtain ⟨d0, d1, d2, d3⟩ := box3 (V0.out.below HB.out)
          have D5 := hide (HG.out.keep (B4.out.trans (HB.out.mono B4.out.size)))
          have BB := hide (B4.out.trans (HB.out.mono B4.out.size))
          go_wp2_with fail
          refine (Choose_any d hd A B cp cq m r most _ HM.out D5.out).mono ?_
          intro e w6 h6
          rw [← HL.out] at h6
          rcases h6.split with ⟨hL0, rfl, hb6⟩ | ⟨k', x', y', s', o', hz', rfl, hb6⟩
          · have h0 : N5 = 0 := by rw [HN5.out, hL0]; rfl
            subst h0
            have B6 := hide (BB.out.trans (hb6.mono BB.out.size))
            clear h6 hL0 hb6
            go_wp2
            go_ret
            exact ⟨rfl, B6.out.alloc B6.out.size _⟩
          · have h0 : (0 : Int) < (N5 : Int) := by
              have := (List.getElem?_eq_some_iff.1 hz').1
              have := HN5.out
              omega
            have B6 := hide (BB.out.trans (hb6.mono BB.out.size))
            have hN0 : 0 < N5 := by omega
            clear h6 hz' hb6
            go_wp2
            go_ret
            exact ⟨rfl, B6.out.alloc B6.out.size _⟩
set_option maxRecDepth 100000 in
set_option maxHeartbeats 4000000 in
theorem cycles_bad (sg mt : List Int) (lp : Int) (A B : Option Addr) (n q cp cq : Nat) (most r : Int) (w : World) (hs : IntsAt w A n sg) (hm : IntsAt w B q mt) (hn : n ≤ maxLen) (hq : q ≤ maxLen) (hlp : -9223372036854775808 ≤ lp ∧ lp ≤ 9223372036854775807) (hv : ¬ Pl.VL sg mt lp) :
    Calls Try.prog 11 #[.agg #[.slice A n cp, .slice B q cq, .int .i64 lp], .int .i64 most, .int .i8 r] w fun e w' => e = .returned (.bool true) ∧ Below w.heap.size w w' := by
  have HS := hide hs
  have HM := hide hm
  clear hs hm
  have X0 := hide (row_at (W := w) (g := w.heap.size) (t := 24) (vs := [.slice A n cp, .slice B q cq, .int .i64 lp]) rfl)
  have B0 := hide (show Below w.heap.size w (w.alloc (.cells #[.slice A n cp, .slice B q cq, .int .i64 lp] 24)) from (Below.refl _ _).alloc (Nat.le_refl _) _)
  go_enter Try.func11, Try.ntmps11
  go_wp2_with fail
  refine (awake11 _).mono ?_
  rintro e w1 ⟨rfl, hb1⟩
  have Y0 := hide (X0.out.below hb1)
  have B1 := hide (B0.out.trans (hb1.mono B0.out.size))
  clear X0 B0 hb1
  obtain ⟨d0, d1, d2, d3⟩ := box3 Y0.out
  go_wp2_with fail
  refine (great_any A B n q cp cq lp w1).mono ?_
  rintro e w2 ⟨rfl, hb2⟩
  have Z0 := hide (Y0.out.below hb2)
  have B2 := hide (B1.out.trans (hb2.mono B1.out.size))
  clear Y0 B1 hb2 d0 d1 d2 d3
  obtain ⟨gb, hgb⟩ : ∃ b, b = grt n q lp := ⟨_, rfl⟩
  rw [← hgb]
  clear hgb
  obtain ⟨d0, d1, d2, d3⟩ := box3 Z0.out
  cases gb with
  | true =>
    go_wp2
    go_ret
    exact ⟨rfl, B2.out⟩
  | false =>
    by_cases h3 : (3 : Int) < (n : Int)
    · go_wp2
      go_ret
      exact ⟨rfl, B2.out⟩
    · go_wp2_with fail
      refine (valid_any sg mt lp A B n q cp cq _ (HS.out.keep B2.out) (HM.out.keep B2.out) hn hq hlp).mono ?_
      rintro e w3 ⟨rfl, hb3⟩
      rw [Pl.vb_false hv]
      have B3 := hide (B2.out.trans (hb3.mono B2.out.size))
      clear hb3
      go_wp2
      go_ret
      exact ⟨rfl, B3.out⟩
theorem cycles_walk (sg mt : List Int) (lp : Int) (A B : Option Addr) (n q cp cq : Nat) (most r : Int) (w : World) (hs : IntsAt w A n sg) (hm : IntsAt w B q mt) (hn : n ≤ maxLen) (hq : q ≤ maxLen) (hlp : -9223372036854775808 ≤ lp ∧ lp ≤ 9223372036854775807) (hr : -128 ≤ r ∧ r ≤ 127) :
    Calls Try.prog 11 #[.agg #[.slice A n cp, .slice B q cq, .int .i64 lp], .int .i64 most, .int .i8 r] w fun e w' => e = .returned (.bool true) ∧ Below w.heap.size w w' := by
  by_cases hv : Pl.VL sg mt lp
  · have hl := hs.len
    have hl2 := hm.len
    have hl3 := hv.len
    have en : (Pl.mk sg mt lp).n = n := hl
    have em : nats (Pl.mk sg mt lp).mt = mt := Pl.nats_mk hv.2.1
    have el : ((Pl.mk sg mt lp).lp : Int) = lp := by show ((lp.toNat : Nat) : Int) = lp; have := hv.2.2; omega
    have h := cycles_valid (Pl.mk sg mt lp) hv.1 A B cp cq q most r w (by rw [en]; omega) ⟨by rw [en]; exact hs, by rw [en, em, show 4 * n = q by omega]; exact hm⟩ hr
    rw [en, el] at h
    exact h
  · exact cycles_bad sg mt lp A B n q cp cq most r w hs hm hn hq hlp hv
end Go.Proofs.Ytobbepmlmbbamaa
