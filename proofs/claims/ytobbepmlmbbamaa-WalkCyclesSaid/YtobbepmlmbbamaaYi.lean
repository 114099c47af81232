/-
  Walks: the law that a greater limit only adds choices (WalkGrows).
-/
import Derived.Test.YtobbepmlmbbamaaYh
set_option linter.unusedVariables false
set_option linter.unusedSimpArgs false
namespace Go.Proofs.Ytobbepmlmbbamaa
open Go Go.RowKit
attribute [local go_sem ↓] Go.wp_at_zero Go.wp_at_succ

theorem mem_chL {d : Pl.Dg} {most : Int} {z : Mv} : z ∈ chL d most ↔ z ∈ allL d ∧ (d.n : Int) + gro z.kind ≤ most := by
  unfold chL keepM
  rw [List.mem_filter]
  unfold dels
  constructor
  · rintro ⟨h1, h2⟩
    simp at h2
    exact ⟨h1, by omega⟩
  · rintro ⟨h1, h2⟩
    refine ⟨h1, ?_⟩
    simp
    omega
set_option maxRecDepth 100000 in
set_option maxHeartbeats 8000000 in
theorem grows_valid (d : Pl.Dg) (hd : Pl.Valid d) (A B : Option Addr) (cp cq m c mo me : Nat) (w : World) (hm : m = 4 * d.n) (hg : DgAt w A B d) (hc : c < 256) (hmo : mo < 256) (hme : me < 256) :
    Calls Try.prog 12 #[.agg #[.slice A d.n cp, .slice B m cq, .int .i64 d.lp], .int .u8 (c : Int), .int .u8 (mo : Int), .int .u8 (me : Int)] w fun e w' => e = .returned (.bool true) ∧ Below w.heap.size w w' := by
  have HM := hide hm
  have HG := hide hg
  have hn := hd.wf.few
  clear hm hg
  have X0 := hide (row_at (W := w) (g := w.heap.size) (t := 24) (vs := [.slice A d.n cp, .slice B m cq, .int .i64 (d.lp : Int)]) rfl)
  have B0 := hide (show Below w.heap.size w (w.alloc (.cells #[.slice A d.n cp, .slice B m cq, .int .i64 (d.lp : Int)] 24)) from (Below.refl _ _).alloc (Nat.le_refl _) _)
  go_enter Try.func12, Try.ntmps12
  go_wp2_with fail
  refine (awake11 _).mono ?_
  rintro e w1 ⟨rfl, hb1⟩
  have Y0 := hide (X0.out.below hb1)
  have B1 := hide (B0.out.trans (hb1.mono B0.out.size))
  clear X0 B0 hb1
  obtain ⟨d0, d1, d2, d3⟩ := box3 Y0.out
  go_wp2_with fail
  refine (great_any A B d.n m cp cq (d.lp : Int) w1).mono ?_
  rintro e w2 ⟨rfl, hb2⟩
  have Z0 := hide (Y0.out.below hb2)
  have B2 := hide (B1.out.trans (hb2.mono B1.out.size))
  clear Y0 B1 hb2 d0 d1 d2 d3
  obtain ⟨gb, hgb⟩ : ∃ b, b = grt d.n m (d.lp : Int) := ⟨_, rfl⟩
  rw [← hgb]
  clear hgb
  obtain ⟨d0, d1, d2, d3⟩ := box3 Z0.out
  cases gb with
  | true =>
    go_wp2
    go_ret
    exact ⟨rfl, B2.out⟩
  | false =>
    go_wp2_with fail
    refine (valid_yes d hd A B cp cq m _ HM.out (HG.out.keep B2.out)).mono ?_
    rintro e w3 ⟨rfl, hb3⟩
    have U0 := hide (Z0.out.below hb3)
    have B3 := hide (B2.out.trans (hb3.mono B2.out.size))
    clear Z0 B2 hb3 d0 d1 d2 d3
    obtain ⟨d0, d1, d2, d3⟩ := box3 U0.out
    obtain ⟨sm, hsm⟩ : ∃ l, l = mo % 6 := ⟨_, rfl⟩
    have hs6 : (mo : Int) % 6 = (sm : Int) := by omega
    have hs6' : (mo : Int).tmod 6 = (sm : Int) := by rw [hsm]; rfl
    have hs5 : sm ≤ 5 := by omega
    obtain ⟨mr, hmr⟩ : ∃ l, l = me % 3 := ⟨_, rfl⟩
    have hr3 : (me : Int) % 3 = (mr : Int) := by omega
    have hr3' : (me : Int).tmod 3 = (mr : Int) := by rw [hmr]; rfl
    have hr2 : mr ≤ 2 := by omega
    clear hsm hmr
    go_wp2_with fail
    refine (Choose_any d hd A B cp cq m (c : Int) (sm : Int) _ HM.out (HG.out.keep B3.out)).mono ?_
    intro e w4 h4
    rcases h4.split with ⟨_, rfl, hb4⟩ | ⟨k, x, y, s, o, hz, rfl, hb4⟩
    · have B4 := hide (B3.out.trans (hb4.mono B3.out.size))
      clear h4 hb4
      go_wp2
      go_ret
      exact ⟨rfl, B4.out.alloc B4.out.size _⟩
    · obtain ⟨z1, z2⟩ := mem_chL.1 (List.mem_of_getElem? hz)
      have hok := listed_ok z1
      have en := ap_n hd hok
      have HIN := hide (show (⟨k, x, y, s, o⟩ : Mv) ∈ chL d ((sm : Int) + (mr : Int)) from mem_chL.2 ⟨z1, by simp only at z2 ⊢; omega⟩)
      have hk24 : k = 2 ∨ k = 4 ∨ ¬ ((sm : Int) < (d.n : Int)) := by
        by_cases k2 : k = 2
        · exact .inl k2
        · by_cases k4 : k = 4
          · exact .inr (.inl k4)
          · right; right
            have : 0 ≤ gro k := by unfold gro; rw [if_neg k2, if_neg k4]; (repeat' split) <;> omega
            simp only at z2
            omega
      have HOK := hide hok
      have EN := hide (show ((apD d ⟨k, x, y, s, o⟩).n : Int) ≤ (sm : Int) by rw [en]; exact z2)
      have b5 := (Below.refl w4.heap.size w4).alloc (Nat.le_refl _) (.cells #[.int .i64 k, .int .i64 x, .int .i64 y, .int .i64 s, .bool o] 28)
      have hw4 : w.heap.size < w4.heap.size := (U0.out.below hb4).lt
      have U5 := hide ((U0.out.below hb4).below b5)
      have BB4 := B3.out.trans (hb4.mono B3.out.size)
      have B5 := hide (BB4.trans (b5.mono BB4.size))
      have M5 := hide (row_at (W := w4) (g := w4.heap.size) (t := 28) (vs := [.int .i64 k, .int .i64 x, .int .i64 y, .int .i64 s, .bool o]) rfl)
      obtain ⟨V, hV⟩ : ∃ V, V = w4.alloc (.cells #[.int .i64 k, .int .i64 x, .int .i64 y, .int .i64 s, .bool o] 28) := ⟨_, rfl⟩
      have HVV := hide hV
      obtain ⟨q0, q1, q2, q3⟩ := box3 (U0.out.below hb4)
      clear h4 hz z1 z2 hok en hb4 b5 BB4 hV d0 d1 d2 d3 U0 B3
      go_upto_region 9 with fail
      rw [← HVV.out] at U5 M5 B5 ⊢
      obtain ⟨gm, hgm⟩ : ∃ g, g = w4.heap.size := ⟨_, rfl⟩
      rw [← hgm] at M5 hw4 ⊢
      have hne : w.heap.size ≠ gm := by omega
      clear HVV hgm q0 q1 q2 q3
      obtain ⟨d0, d1, d2, d3⟩ := box3 U5.out
      obtain ⟨m0, m1, m2, m3, m4, m5⟩ := box5 M5.out
      go_cut [51] (fun s51 wx => s51 = .bool false ∧ wx = V)
      case first =>
        rcases hk24 with rfl | rfl | h
        · go_wp2_with fail
          all_goals (go_meet; exact ⟨rfl, rfl⟩)
        · go_wp2_with fail
          all_goals (go_meet; exact ⟨rfl, rfl⟩)
        · go_wp2_with fail
          all_goals (go_meet; exact ⟨rfl, rfl⟩)
      case rest =>
        obtain ⟨rfl, rfl⟩ := hcut
        go_upto_region 11 with fail
        have hwr0 : IntKind.i64.wrap (me : Int) = (me : Int) := IntWalk.i64_in _ (by omega)
        have hwr : IntKind.i64.wrap ((sm : Int) + (mr : Int)) = (sm : Int) + (mr : Int) := IntWalk.i64_in _ (by omega)
        have hV0 : gm < wc.heap.size := M5.out.lt
        go_cut [61] (fun s61 wx => s61 = .bool false ∧ Row wx w.heap.size 24 [.slice A d.n cp, .slice B m cq, .int .i64 (d.lp : Int)] ∧ Row wx gm 28 [.int .i64 k, .int .i64 x, .int .i64 y, .int .i64 s, .bool o] ∧ Below w.heap.size w wx)
        case first =>
          have HG5 := hide (show DgAt wc.drew A B d from ⟨(HG.out.keep B5.out).s, (HG.out.keep B5.out).m⟩)
          go_region_law
            (go_simp
             go_wp2_with (first
               | ((go_at_call 36); refine Calls.mono (kept_any d hd A B cp cq m ((sm : Int) + (mr : Int)) _ HM.out HG5.out) ?_; rintro e w6 ⟨v6, rfl, hv6, hb6⟩; obtain ⟨A6, c6, rfl, hV6⟩ := hv6.at.mv; have R6 := hide (U5.out.drew.below hb6); have M6 := hide (M5.out.drew.below hb6); have B6 := hide (B5.out.drew.trans (hb6.mono B5.out.drew.size)); have HV6 := hide hV6; obtain ⟨f0, f1, f2, f3, f4, f5⟩ := box5 M6.out; clear hv6 hV6 hb6)
               | ((go_at_call 37); refine Calls.mono (contains_in (chL d ((sm : Int) + (mr : Int))) A6 _ c6 k x y s o _ HV6.out (by have := chL_le hn ((sm : Int) + (mr : Int)); omega) HIN.out) ?_; rintro e w7 ⟨rfl, hb7⟩; have R7 := hide (R6.out.below hb7); have M7 := hide (M6.out.below hb7); have B7 := hide (B6.out.trans (hb7.mono B6.out.size)); clear hb7)))
          all_goals (go_wp2_with fail; go_meet; exact ⟨rfl, R7.out, M7.out, B7.out⟩)
        case rest =>
          obtain ⟨rfl, r8, m8, b8⟩ := hcut
          have R8 := hide r8
          have M8 := hide m8
          have B8 := hide b8
          clear r8 m8 b8 hwr hwr0 d0 d1 d2 d3 m0 m1 m2 m3 m4 m5 U5 M5 B5 hk24
          obtain ⟨d0, d1, d2, d3⟩ := box3 R8.out
          obtain ⟨m0, m1, m2, m3, m4, m5⟩ := box5 M8.out
          go_wp2_with fail
          refine (apply_any d hd A B cp cq m ⟨k, x, y, s, o⟩ _ HM.out (HG.out.keep B8.out)).mono ?_
          intro e w9 hres
          obtain ⟨A9, B9, c8, c9, k9, x9, y9, s9, o9, hmv, rfl, hT⟩ := (hres.2.1 HOK.out).split
          have B9' := hide (B8.out.trans (hres.2.2.mono B8.out.size))
          obtain ⟨N9, hN9⟩ : ∃ n, n = (apD d ⟨k, x, y, s, o⟩).n := ⟨_, rfl⟩
          obtain ⟨N4, hN4⟩ : ∃ n, n = 4 * (apD d ⟨k, x, y, s, o⟩).n := ⟨_, rfl⟩
          obtain ⟨L9, hL9⟩ : ∃ n, n = (apD d ⟨k, x, y, s, o⟩).lp := ⟨_, rfl⟩
          have hle := EN.out
          rw [← hN9] at hle
          rw [← hN4, ← hN9, ← hL9]
          clear hmv hT hres hN9 hN4 hL9 EN d0 d1 d2 d3 m0 m1 m2 m3 m4 m5 R8 M8 B8
          go_wp2
          go_ret
          exact ⟨rfl, (B9'.out.alloc B9'.out.size _).alloc (B9'.out.alloc B9'.out.size _).size _⟩
set_option maxRecDepth 100000 in
set_option maxHeartbeats 4000000 in
theorem grows_bad (sg mt : List Int) (lp : Int) (A B : Option Addr) (n q cp cq c mo me : Nat) (w : World) (hs : IntsAt w A n sg) (hm : IntsAt w B q mt) (hn : n ≤ maxLen) (hq : q ≤ maxLen) (hlp : -9223372036854775808 ≤ lp ∧ lp ≤ 9223372036854775807) (hv : ¬ Pl.VL sg mt lp) :
    Calls Try.prog 12 #[.agg #[.slice A n cp, .slice B q cq, .int .i64 lp], .int .u8 (c : Int), .int .u8 (mo : Int), .int .u8 (me : Int)] w fun e w' => e = .returned (.bool true) ∧ Below w.heap.size w w' := by
  have HS := hide hs
  have HM := hide hm
  clear hs hm
  have X0 := hide (row_at (W := w) (g := w.heap.size) (t := 24) (vs := [.slice A n cp, .slice B q cq, .int .i64 lp]) rfl)
  have B0 := hide (show Below w.heap.size w (w.alloc (.cells #[.slice A n cp, .slice B q cq, .int .i64 lp] 24)) from (Below.refl _ _).alloc (Nat.le_refl _) _)
  go_enter Try.func12, Try.ntmps12
  go_wp2_with fail
  refine (awake11 _).mono ?_
  rintro e w1 ⟨rfl, hb1⟩
  have Y0 := hide (X0.out.below hb1)
  have B1 := hide (B0.out.trans (hb1.mono B0.out.size))
  clear X0 B0 hb1
  obtain ⟨d0, d1, d2, d3⟩ := box3 Y0.out
  go_wp2_with fail
  refine (great_any A B n q cp cq lp w1).mono ?_
  rintro e w2 ⟨rfl, hb2⟩
  have Z0 := hide (Y0.out.below hb2)
  have B2 := hide (B1.out.trans (hb2.mono B1.out.size))
  clear Y0 B1 hb2 d0 d1 d2 d3
  obtain ⟨gb, hgb⟩ : ∃ b, b = grt n q lp := ⟨_, rfl⟩
  rw [← hgb]
  clear hgb
  obtain ⟨d0, d1, d2, d3⟩ := box3 Z0.out
  cases gb with
  | true =>
    go_wp2
    go_ret
    exact ⟨rfl, B2.out⟩
  | false =>
    go_wp2_with fail
    refine (valid_any sg mt lp A B n q cp cq _ (HS.out.keep B2.out) (HM.out.keep B2.out) hn hq hlp).mono ?_
    rintro e w3 ⟨rfl, hb3⟩
    rw [Pl.vb_false hv]
    have B3 := hide (B2.out.trans (hb3.mono B2.out.size))
    clear hb3
    go_wp2
    go_ret
    exact ⟨rfl, B3.out⟩
theorem grows_walk (sg mt : List Int) (lp : Int) (A B : Option Addr) (n q cp cq c mo me : Nat) (w : World) (hs : IntsAt w A n sg) (hm : IntsAt w B q mt) (hn : n ≤ maxLen) (hq : q ≤ maxLen) (hlp : -9223372036854775808 ≤ lp ∧ lp ≤ 9223372036854775807) (hc : c < 256) (hmo : mo < 256) (hme : me < 256) :
    Calls Try.prog 12 #[.agg #[.slice A n cp, .slice B q cq, .int .i64 lp], .int .u8 (c : Int), .int .u8 (mo : Int), .int .u8 (me : Int)] w fun e w' => e = .returned (.bool true) ∧ Below w.heap.size w w' := by
  by_cases hv : Pl.VL sg mt lp
  · have hl := hs.len
    have hl2 := hm.len
    have hl3 := hv.len
    have en : (Pl.mk sg mt lp).n = n := hl
    have em : nats (Pl.mk sg mt lp).mt = mt := Pl.nats_mk hv.2.1
    have el : ((Pl.mk sg mt lp).lp : Int) = lp := by show ((lp.toNat : Nat) : Int) = lp; have := hv.2.2; omega
    have h := grows_valid (Pl.mk sg mt lp) hv.1 A B cp cq q c mo me w (by rw [en]; omega) ⟨by rw [en]; exact hs, by rw [en, em, show 4 * n = q by omega]; exact hm⟩ hc hmo hme
    rw [en, el] at h
    exact h
  · exact grows_bad sg mt lp A B n q cp cq c mo me w hs hm hn hq hlp hv
end Go.Proofs.Ytobbepmlmbbamaa
