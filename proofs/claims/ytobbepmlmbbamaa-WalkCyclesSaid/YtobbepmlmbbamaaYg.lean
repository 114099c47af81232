/-
  Walks: the law on walks that stay (WalkStays).
-/
import Derived.Test.YtobbepmlmbbamaaYcg
set_option linter.unusedVariables false
set_option linter.unusedSimpArgs false
namespace Go.Proofs.Ytobbepmlmbbamaa
open Go Go.RowKit
attribute [local go_sem ↓] Go.wp_at_zero Go.wp_at_succ

theorem allL_in {d : Pl.Dg} {z : Mv} (h : z ∈ allL d) : 1 ≤ z.kind ∧ z.kind ≤ 5 ∧ inR d.n z := by
  have hz := listed_ok h
  have h15 : 1 ≤ z.kind ∧ z.kind ≤ 5 := by
    by_cases h1 : z.kind < 1 ∨ 5 < z.kind
    · unfold apC at hz
      rw [if_pos h1] at hz
      cases hz
    · omega
  refine ⟨h15.1, h15.2, ?_⟩
  by_cases hin : inR d.n z
  · exact hin
  · rw [apC_out h15 hin] at hz
    cases hz
theorem keep_none {d : Pl.Dg} {most : Int} (h : ∀ z, z ∈ allL d → most < d.n + gro z.kind) : chL d most = [] := by
  unfold chL keepM
  refine filter_none fun z hz => ?_
  unfold dels
  rw [decide_eq_true (h z hz)]
  rfl
theorem chL_neg (d : Pl.Dg) : chL d (-1) = [] := keep_none fun z hz => by
  obtain ⟨h1, h2, h3⟩ := allL_in hz
  have h5 : z.kind = 1 ∨ z.kind = 2 ∨ z.kind = 3 ∨ z.kind = 4 ∨ z.kind = 5 := by omega
  unfold inR at h3
  unfold gro
  rcases h5 with h | h | h | h | h <;> simp [h] at h3 ⊢ <;> omega
theorem chL_flat (l : Nat) : chL ⟨[], [], l⟩ 0 = [] := keep_none fun z hz => by
  obtain ⟨h1, h2, h3⟩ := allL_in hz
  have e : (⟨[], [], l⟩ : Pl.Dg).n = 0 := rfl
  rw [e] at h3 ⊢
  have h5 : z.kind = 1 ∨ z.kind = 2 ∨ z.kind = 3 ∨ z.kind = 4 ∨ z.kind = 5 := by omega
  unfold inR at h3
  unfold gro
  rcases h5 with h | h | h | h | h <;> simp [h] at h3 ⊢ <;> omega
set_option maxRecDepth 100000 in
set_option maxHeartbeats 8000000 in
theorem stays_valid (d : Pl.Dg) (hd : Pl.Valid d) (A B C : Option Addr) (cp cq m nc cc k : Nat) (cs : List Int) (w : World) (hm : m = 4 * d.n) (hg : DgAt w A B d) (hc : IntsAt w C nc cs) (hnc : nc ≤ maxLen) (hk : k < 256) :
    Calls Try.prog 13 #[.agg #[.slice A d.n cp, .slice B m cq, .int .i64 d.lp], .slice C nc cc, .int .u8 (k : Int)] w fun e w' => e = .returned (.bool true) ∧ Below w.heap.size w w' := by
  have HM := hide hm
  have HG := hide hg
  have HCS := hide hc
  have hn := hd.wf.few
  have hlp := hd.wf.lp
  unfold maxLen at hnc
  clear hm hg hc
  have X0 := hide (row_at (W := w) (g := w.heap.size) (t := 24) (vs := [.slice A d.n cp, .slice B m cq, .int .i64 (d.lp : Int)]) rfl)
  have B0 := hide (show Below w.heap.size w (w.alloc (.cells #[.slice A d.n cp, .slice B m cq, .int .i64 (d.lp : Int)] 24)) from (Below.refl _ _).alloc (Nat.le_refl _) _)
  go_enter Try.func13, Try.ntmps13
  go_wp2_with fail
  refine (awake11 _).mono ?_
  rintro e w1 ⟨rfl, hb1⟩
  have Y0 := hide (X0.out.below hb1)
  have B1 := hide (B0.out.trans (hb1.mono B0.out.size))
  clear X0 B0 hb1
  obtain ⟨d0, d1, d2, d3⟩ := box3 Y0.out
  go_wp2_with fail
  refine (great_any A B d.n m cp cq (d.lp : Int) w1).mono ?_
  rintro e w2 ⟨rfl, hb2⟩
  have Z0 := hide (Y0.out.below hb2)
  have B2 := hide (B1.out.trans (hb2.mono B1.out.size))
  clear Y0 B1 hb2 d0 d1 d2 d3
  obtain ⟨gb, hgb⟩ : ∃ b, b = grt d.n m (d.lp : Int) := ⟨_, rfl⟩
  rw [← hgb]
  clear hgb
  obtain ⟨d0, d1, d2, d3⟩ := box3 Z0.out
  cases gb with
  | true =>
    go_wp2
    go_ret
    exact ⟨rfl, B2.out⟩
  | false =>
    by_cases h20 : (20 : Int) < (nc : Int)
    · go_wp2
      go_ret
      exact ⟨rfl, B2.out⟩
    · go_wp2_with fail
      refine (valid_yes d hd A B cp cq m _ HM.out (HG.out.keep B2.out)).mono ?_
      rintro e w3 ⟨rfl, hb3⟩
      have U0 := hide (Z0.out.below hb3)
      have B3 := hide (B2.out.trans (hb3.mono B2.out.size))
      clear Z0 B2 hb3 d0 d1 d2 d3
      obtain ⟨d0, d1, d2, d3⟩ := box3 U0.out
      go_wp2_with fail
      refine (walk_stays d hd A B C cp cq m nc cc cs (-1) _ HM.out (HG.out.keep B3.out) (HCS.out.keep B3.out) (by omega) (chL_neg d)).mono ?_
      rintro e w4 ⟨A4, B4', c4, c4', rfl, hT4, hb4⟩
      have V0 := hide (U0.out.below hb4)
      have B4 := hide (B3.out.trans (hb4.mono B3.out.size))
      have T4 := hide hT4
      have hw4 : w.heap.size < w4.heap.size := V0.out.lt
      clear U0 B3 hb4 hT4 d0 d1 d2 d3
      obtain ⟨l, hl⟩ : ∃ l, l = k % 5 := ⟨_, rfl⟩
      have hl5 : (k : Int) % 5 = (l : Int) := by omega
      have hl5' : (k : Int).tmod 5 = (l : Int) := by rw [hl]; rfl
      have hl4 : l ≤ 4 := by omega
      clear hl
      have b5 := ((Below.refl w4.heap.size w4).alloc (Nat.le_refl _) (.cells #[.slice A4 d.n c4, .slice B4' m c4', .int .i64 (d.lp : Int)] 24)).alloc (by simp) (.cells #[.slice none 0 0, .slice none 0 0, .int .i64 (l : Int)] 24)
      have V5 := hide (V0.out.below b5)
      have B5 := hide (B4.out.trans (b5.mono B4.out.size))
      have T5 := hide (T4.out.keep b5)
      have G5 := hide ((row_at (W := w4) (g := w4.heap.size) (t := 24) (vs := [.slice A4 d.n c4, .slice B4' m c4', .int .i64 (d.lp : Int)]) rfl).alloc (.cells #[.slice none 0 0, .slice none 0 0, .int .i64 (l : Int)] 24))
      have F5 := hide (row_at (W := w4.alloc (.cells #[.slice A4 d.n c4, .slice B4' m c4', .int .i64 (d.lp : Int)] 24)) (g := w4.heap.size + 1) (t := 24) (vs := [.slice none 0 0, .slice none 0 0, .int .i64 (l : Int)]) (by simp))
      clear b5
      go_wp2_with fail
      refine (walk_stays ⟨[], [], l⟩ (valid_empty (by omega)) none none C 0 0 0 nc cc cs 0 _ rfl (none_at _ l) (HCS.out.keep B5.out) (by omega) (chL_flat l)).mono ?_
      rintro e w6 ⟨A6, B6', c6, c6', rfl, hT6, hb6⟩
      have V6 := hide (V5.out.below hb6)
      have B6 := hide (B5.out.trans (hb6.mono B5.out.size))
      have T6 := hide (T5.out.keep hb6)
      have G6 := hide (G5.out.below hb6)
      have F6 := hide (F5.out.below hb6)
      have hw6 : w.heap.size < w6.heap.size := V6.out.lt
      have hw6a : w4.heap.size < w6.heap.size := G6.out.lt
      have hw6b : w4.heap.size + 1 < w6.heap.size := F6.out.lt
      clear hb6 V5 B5 T5 G5 F5 V0 T4 B4
      obtain ⟨f0, f1, f2, f3⟩ := box3 F6.out
      have S6 := hide hT6.at
      clear hT6
      have b7 := (Below.refl w6.heap.size w6).alloc (Nat.le_refl _) (.cells #[.slice A6 0 c6, .slice B6' 0 c6', .int .i64 (l : Int)] 24)
      have V7 := hide (V6.out.below b7)
      have B7 := hide (B6.out.trans (b7.mono B6.out.size))
      have T7 := hide (T6.out.keep b7)
      have G7 := hide (G6.out.below b7)
      have S7 := hide (S6.out.keep b7)
      clear b7
      go_wp2_with fail
      refine (equal_yes [] [] (l : Int) A6 B6' none none 0 0 c6 c6' 0 0 _ S7.out.s S7.out.m (RowAt.nil _) (RowAt.nil _) (by omega) (by omega)).mono ?_
      rintro e w8 ⟨rfl, hb8⟩
      have V8 := hide (V7.out.below hb8)
      have B8 := hide (B7.out.trans (hb8.mono B7.out.size))
      have T8 := hide (T7.out.keep hb8)
      have G8 := hide (G7.out.below hb8)
      have D8 := hide (HG.out.keep B8.out)
      clear hb8 V7 B7 T7 G7 S7 V6 B6 T6 G6 F6 S6 f0 f1 f2 f3
      obtain ⟨e0, e1, e2, e3⟩ := box3 V8.out
      obtain ⟨f0, f1, f2, f3⟩ := box3 G8.out
      have tm1 := T8.out.at.m
      have tm2 := D8.out.m
      rw [← HM.out] at tm1 tm2
      have TM1 := hide tm1
      have TM2 := hide tm2
      have hm9 : m ≤ 256 := by have := HM.out; omega
      clear tm1 tm2
      go_wp2_with fail
      refine (equal_yes d.sg (nats d.mt) (d.lp : Int) A4 B4' A B d.n m c4 c4' cp cq _ T8.out.at.s TM1.out D8.out.s TM2.out (by omega) (by omega)).mono ?_
      rintro e w9 ⟨rfl, hb9⟩
      have B9 := hide (B8.out.trans (hb9.mono B8.out.size))
      clear hb9
      go_wp2
      go_ret
      exact ⟨rfl, B9.out⟩
set_option maxRecDepth 100000 in
set_option maxHeartbeats 4000000 in
theorem stays_bad (sg mt : List Int) (lp : Int) (A B C : Option Addr) (n q cp cq nc cc k : Nat) (w : World) (hs : IntsAt w A n sg) (hm : IntsAt w B q mt) (hn : n ≤ maxLen) (hq : q ≤ maxLen) (hlp : -9223372036854775808 ≤ lp ∧ lp ≤ 9223372036854775807) (hnc : nc ≤ maxLen) (hv : ¬ Pl.VL sg mt lp) :
    Calls Try.prog 13 #[.agg #[.slice A n cp, .slice B q cq, .int .i64 lp], .slice C nc cc, .int .u8 (k : Int)] w fun e w' => e = .returned (.bool true) ∧ Below w.heap.size w w' := by
  have HS := hide hs
  have HM := hide hm
  clear hs hm
  have hnc' := hnc
  unfold maxLen at hnc'
  have X0 := hide (row_at (W := w) (g := w.heap.size) (t := 24) (vs := [.slice A n cp, .slice B q cq, .int .i64 lp]) rfl)
  have B0 := hide (show Below w.heap.size w (w.alloc (.cells #[.slice A n cp, .slice B q cq, .int .i64 lp] 24)) from (Below.refl _ _).alloc (Nat.le_refl _) _)
  go_enter Try.func13, Try.ntmps13
  go_wp2_with fail
  refine (awake11 _).mono ?_
  rintro e w1 ⟨rfl, hb1⟩
  have Y0 := hide (X0.out.below hb1)
  have B1 := hide (B0.out.trans (hb1.mono B0.out.size))
  clear X0 B0 hb1
  obtain ⟨d0, d1, d2, d3⟩ := box3 Y0.out
  go_wp2_with fail
  refine (great_any A B n q cp cq lp w1).mono ?_
  rintro e w2 ⟨rfl, hb2⟩
  have Z0 := hide (Y0.out.below hb2)
  have B2 := hide (B1.out.trans (hb2.mono B1.out.size))
  clear Y0 B1 hb2 d0 d1 d2 d3
  obtain ⟨gb, hgb⟩ : ∃ b, b = grt n q lp := ⟨_, rfl⟩
  rw [← hgb]
  clear hgb
  obtain ⟨d0, d1, d2, d3⟩ := box3 Z0.out
  cases gb with
  | true =>
    go_wp2
    go_ret
    exact ⟨rfl, B2.out⟩
  | false =>
    by_cases h20 : (20 : Int) < (nc : Int)
    · go_wp2
      go_ret
      exact ⟨rfl, B2.out⟩
    · go_wp2_with fail
      refine (valid_any sg mt lp A B n q cp cq _ (HS.out.keep B2.out) (HM.out.keep B2.out) hn hq hlp).mono ?_
      rintro e w3 ⟨rfl, hb3⟩
      rw [Pl.vb_false hv]
      have B3 := hide (B2.out.trans (hb3.mono B2.out.size))
      clear hb3
      go_wp2
      go_ret
      exact ⟨rfl, B3.out⟩
theorem stays_walk (sg mt : List Int) (lp : Int) (A B C : Option Addr) (n q cp cq nc cc k : Nat) (cs : List Int) (w : World) (hs : IntsAt w A n sg) (hm : IntsAt w B q mt) (hc : IntsAt w C nc cs) (hn : n ≤ maxLen) (hq : q ≤ maxLen) (hnc : nc ≤ maxLen) (hlp : -9223372036854775808 ≤ lp ∧ lp ≤ 9223372036854775807) (hk : k < 256) :
    Calls Try.prog 13 #[.agg #[.slice A n cp, .slice B q cq, .int .i64 lp], .slice C nc cc, .int .u8 (k : Int)] w fun e w' => e = .returned (.bool true) ∧ Below w.heap.size w w' := by
  by_cases hv : Pl.VL sg mt lp
  · have hl := hs.len
    have hl2 := hm.len
    have hl3 := hv.len
    have en : (Pl.mk sg mt lp).n = n := hl
    have em : nats (Pl.mk sg mt lp).mt = mt := Pl.nats_mk hv.2.1
    have el : ((Pl.mk sg mt lp).lp : Int) = lp := by show ((lp.toNat : Nat) : Int) = lp; have := hv.2.2; omega
    have h := stays_valid (Pl.mk sg mt lp) hv.1 A B C cp cq q nc cc k cs w (by rw [en]; omega) ⟨by rw [en]; exact hs, by rw [en, em, show 4 * n = q by omega]; exact hm⟩ hc hnc hk
    rw [en, el] at h
    exact h
  · exact stays_bad sg mt lp A B C n q cp cq nc cc k w hs hm hn hq hlp hnc hv
end Go.Proofs.Ytobbepmlmbbamaa
