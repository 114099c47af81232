/-
 The texts Nt in one.
-/
import Derived.Test.YtlffopdoeobgaaaGreatDoorS26
import Derived.Test.YtlffopdoeobgaaaGreatDoorS16
import Derived.Test.YtlffopdoeobgaaaGreatDoorS24
set_option linter.unusedVariables false
set_option linter.unusedSimpArgs false
section
namespace Go.Proofs.YtlffopdoeobgaaaGreatDoor
open Go Go.RowKit
attribute [local go_sem ↓] Go.wp_at_zero Go.wp_at_succ
theorem apN_valid {d : Pl.Dg} (hd : Pl.Valid d) {ms : List Mv} {K : Nat} (h : ∀ j y, j < K → ms[j]? = some y → apC (apN d ms j) y = 0) : ∀ k, k ≤ K → k ≤ ms.length → Pl.Valid (apN d ms k)
 | 0, _, _ => by
   have e : apN d ms 0 = d := by cases ms <;> rfl
   rw [e]; exact hd
 | k + 1, hk, hl => by
   obtain ⟨z, hz⟩ : ∃ z, ms[k]? = some z := ⟨_, List.getElem?_eq_getElem (by omega)⟩
   rw [apN_succ _ _ _ _ hz]
   exact (ap_ok (apN_valid hd h k (by omega) (by omega)) (h k z (by omega) hz)).1
theorem equal_n (r : Pl.Dg) (A B A2 B2 : Option Addr) (n q lp n2 q2 lp2 cp cq cp2 cq2 : Nat) (w : World) (hg : DgAt w A B r) (hg2 : DgAt w A2 B2 r) (h1 : n = r.n) (h2 : n2 = r.n) (h3 : q = 4 * r.n) (h4 : q2 = 4 * r.n) (h5 : lp = r.lp) (h6 : lp2 = r.lp) (hn : r.n ≤ 1000) :
 Calls Tryz.prog 24 #[.agg #[.slice A n cp, .slice B q cq, .int .i64 (lp : Int)], .agg #[.slice A2 n2 cp2, .slice B2 q2 cq2, .int .i64 (lp2 : Int)]] w fun e w' => e = .returned (.bool true) ∧ Below w.heap.size w w' := by
 subst h1 h2 h3 h4 h5 h6
 exact equal_yes r.sg (nats r.mt) r.lp A B A2 B2 _ _ cp cq cp2 cq2 w hg.s hg.m hg2.s hg2.m (by omega) (by omega)
theorem join_flt (d : Pl.Dg) (hd : Pl.Valid d) (A B C1 C2 : Option Addr) (cp cq m k nb c1 c2 : Nat) (ms : List Mv) (w : World) {j : Nat} {z : Mv} (hf : Flt1 d ms j z) (hk : k ≤ ms.length) (hm : m = 4 * d.n) (hg : DgAt w A B d) (hc : MvsA w C1 k (ms.take k)) (hc2 : MvsA w C2 nb (ms.drop k)) (hka : k ≤ 10000) (hkb : nb ≤ 10000) :
 Calls Tryz.prog 23 #[.agg #[.slice A d.n cp, .slice B m cq, .int .i64 d.lp], .slice C1 k c1, .slice C2 nb c2] w (JoinErr (apC (apN d ms j) z) w) := by
 rcases Nat.lt_or_ge j k with h | h
 ·have := join_f1 d hd A B C1 C2 cp cq m k c1 nb c2 _ _ w hm hg hc hc2 hka hkb (flt_take hk hf h)
  rwa [apN_takeL ms d (Nat.le_of_lt h) hk] at this
 ·have hl : Lgl d (ms.take k) := lgl_take hk (fun i y hi hy => hf.2.1 i y (by omega) hy)
  have e : apN d (ms.take k) (ms.take k).length = apN d ms k := by rw [List.length_take, Nat.min_eq_left hk, apN_take ms d k hk]
  have := join_f2 d hd A B C1 C2 cp cq m k c1 nb c2 _ _ w hm hg hc hc2 hka hkb hl (j := j - k) (z := z) (by rw [e]; exact flt_drop hk hf h)
  rwa [e, apN_drop ms d k _ hk, Nat.add_sub_cancel' h] at this
theorem join_all (d : Pl.Dg) (hd : Pl.Valid d) (A B C1 C2 : Option Addr) (cp cq m k nb c1 c2 : Nat) (ms : List Mv) (w : World) (hl : Lgl d ms) (hk : k ≤ ms.length) (hm : m = 4 * d.n) (hg : DgAt w A B d) (hc : MvsA w C1 k (ms.take k)) (hc2 : MvsA w C2 nb (ms.drop k)) (hka : k ≤ 10000) (hkb : nb ≤ 10000) :
 Calls Tryz.prog 23 #[.agg #[.slice A d.n cp, .slice B m cq, .int .i64 d.lp], .slice C1 k c1, .slice C2 nb c2] w (JoinPost (apN d ms ms.length) w) := by
 have e : apN d (ms.take k) (ms.take k).length = apN d ms k := by rw [List.length_take, Nat.min_eq_left hk, apN_take ms d k hk]
 refine join_yes d hd A B C1 C2 cp cq m k c1 nb c2 _ _ w hm hg hc hc2 hka hkb (lgl_take hk (fun i y _ hy => hl i y hy)) (by rw [e]; exact lgl_drop hk hl) _ ?_
 rw [e, apN_drop ms d k _ hk, List.length_drop, Nat.add_sub_cancel' hk]
set_option maxRecDepth 100000 in
set_option maxHeartbeats 8000000 in
theorem steps_all (d : Pl.Dg) (hd : Pl.Valid d) (A B C : Option Addr) (cp cq m nc cc ct : Nat) (ms : List Mv) (w : World) (hm : m = 4 * d.n) (hg : DgAt w A B d) (hc : MvsA w C nc ms) (hcc : nc ≤ cc) (hcm : cc ≤ maxLen) (hl : Lgl d ms) (hgv : GV w) (hct : ct < 256) :
 Calls Tryz.prog 6 #[.agg #[.slice A d.n cp, .slice B m cq, .int .i64 d.lp], .slice C nc cc, .int .u8 (ct : Int)] w fun e w' => e = .returned (.bool true) ∧ Below w.heap.size w w' := by
 have HL := hide hl
 have HM := hide hm
 have HG := hide hg
 have HCS := hide hc
 have HGV := hide hgv
 have HD := hide hd
 have HLEN := hide hc.1
 have hn := hd.wf.few
 have hlp := hd.wf.lp
 unfold maxLen at hcm
 clear hm hg hc hgv hl
 have X0 := hide (row_at (W := w) (g := w.heap.size) (t := 24) (vs := [.slice A d.n cp, .slice B m cq, .int .i64 (d.lp : Int)]) rfl)
 have B0 := hide (show Below w.heap.size w (w.alloc (.cells #[.slice A d.n cp, .slice B m cq, .int .i64 (d.lp : Int)] 24)) from (Below.refl _ _).alloc (Nat.le_refl _) _)
 go_enter Tryz.func6, Tryz.ntmps6
 go_wp2_with fail
 refine (awake09 _ (HGV.out.below B0.out)).mono ?_
 rintro e w1 ⟨rfl, hb1⟩
 have X1 := hide (X0.out.below hb1)
 have B1 := hide (B0.out.trans (hb1.mono B0.out.size))
 clear X0 B0 hb1 HGV
 obtain ⟨d0, d1, d2, d3⟩ := box3 X1.out
 go_wp2_with fail
 refine (great09_any A B C d.n m cp cq nc cc d.lp w1).mono ?_
 rintro e w2 ⟨rfl, hb2⟩
 have X2 := hide (X1.out.below hb2)
 have B2 := hide (B1.out.trans (hb2.mono B1.out.size))
 clear X1 B1 hb2 d0 d1 d2 d3
 obtain ⟨gb, hgb⟩ : ∃ b, b = decide (16 < d.n ∨ 64 < m ∨ 30 < nc) := ⟨_, rfl⟩
 rw [← hgb]
 obtain ⟨d0, d1, d2, d3⟩ := box3 X2.out
 cases gb with
 | true =>
   clear hgb
   go_wp2
   go_ret
   exact ⟨rfl, B2.out⟩
 | false =>
   have hnc : nc ≤ 30 := by have := of_decide_eq_false hgb.symm; omega
   clear hgb
   go_wp2_with fail
   refine (valid_yes d HD.out A B cp cq m _ HM.out (HG.out.keep B2.out)).mono ?_
   rintro e w3 ⟨rfl, hb3⟩
   have X3 := hide (X2.out.below hb3)
   have B3 := hide (B2.out.trans (hb3.mono B2.out.size))
   have hw3 : w.heap.size < w3.heap.size := X3.out.lt
   clear X2 B2 hb3 d0 d1 d2 d3
   obtain ⟨d0, d1, d2, d3⟩ := box3 X3.out
   go_upto_region 6 with fail
   obtain ⟨V, hV⟩ : ∃ V, V = w3.alloc (.cells #[.slice A d.n cp, .slice B m cq, .int .i64 (d.lp : Int)] 24) := ⟨_, rfl⟩
   obtain ⟨ga, hga⟩ : ∃ g, g = w3.heap.size := ⟨_, rfl⟩
   have hga0 : w3.heap.size ≤ ga := by omega
   have L0 := hide (show LI w3 ga (apN d ms 0) A B d.n cp m cq d.lp V from by
    have e : apN d ms 0 = d := by cases ms <;> rfl
    rw [e, hV, hga]
    exact ⟨rfl, HM.out, rfl, row_at (vs := [.slice A d.n cp, .slice B m cq, .int .i64 (d.lp : Int)]) (by simp), .inr (HG.out.keep B3.out), (Below.refl _ _).alloc (Nat.le_refl _) _⟩)
   rw [← hV, ← hga]
   clear hV hga d0 d1 d2 d3
   have t0 : ¬ ((nc : Int) + 1 = 0) := by omega
   obtain ⟨l, hl⟩ : ∃ l, l = ct % (nc + 1) := ⟨_, rfl⟩
   have hl5 : (ct : Int) % ((nc : Int) + 1) = (l : Int) := by rw [hl]; rfl
   have hl5' : (ct : Int).tmod ((nc : Int) + 1) = (l : Int) := by rw [hl]; rfl
   have hl4 : l ≤ nc := by have := Nat.mod_lt ct (show nc + 1 > 0 by omega); omega
   clear hl
   obtain ⟨C1, hc1, hr1⟩ := cutM_lo HCS.out hl4 hcc
   obtain ⟨C2, hc2, hr2⟩ := cutM_hi HCS.out hl4 hcc
   have HC1 := hide hc1
   have HC2 := hide hc2
   clear hc1 hc2
   have HAL := hide (show ∀ k, k ≤ nc → Pl.Valid (apN d ms k) from fun k hk => apN_valid (K := nc) HD.out (fun j y _ hy => HL.out j y hy) k hk (by rw [← HLEN.out]; exact hk))
   have HRU := hide (show ∀ (k : Nat) (z : Mv), k < nc → ms[k]? = some z → apC (apN d ms k) z = 0 from fun k z _ hz => HL.out k z hz)
   go_wp2_with fail
   go_loopg [8, 9, 10, 11, 12, 13, 14, 35] nc (fun g s8 s9 s10 s11 s12 s13 s14 i wx => ∃ (k : Nat) (A9 B9 : Option Addr) (n c8 m c9 lp : Nat), k + g = nc ∧ s8 = .int .i64 (-1) ∧ s9 = .int .i64 0 ∧ i = .int .i64 (k : Int) ∧ LI w3 ga (apN d ms k) A9 B9 n c8 m c9 lp wx)
   case atStart => exact ⟨0, _, _, _, _, _, _, _, by omega, rfl, rfl, rfl, L0.out⟩
   case round =>
    clear L0
    obtain ⟨k, A9, B9, n, c8, m9, c9, lp, hkg, rfl, rfl, rfl, hl⟩ := hrel
    have HKG := hide hkg
    have K0 := hide hl
    have hknc : k ≤ nc := by omega
    clear hl
    obtain ⟨d0, d1, d2, d3⟩ := box3 K0.out.at_
    have HRV := hide (HAL.out k hknc)
    obtain ⟨r1, hr1⟩ : ∃ r, r = apN d ms k := ⟨_, rfl⟩
    rw [← hr1] at K0 HRV
    have HR1 := hide hr1
    clear hr1
    have hlp1 := HRV.out.wf.lp
    rw [← K0.out.hl] at hlp1
    have hrn1 := HRV.out.wf.few
    rw [← K0.out.hn] at hrn1
    have hgw : ga < wr.heap.size := K0.out.at_.lt
    by_cases hk : k < nc
    ·have hki : (k : Int) < (nc : Int) := by omega
     have k0 : (0 : Int) ≤ (k : Int) := by omega
     obtain ⟨bb, oo, zk, zx, zy, zs, zo, rfl, hz, x0, x1, x2, x3, x4⟩ := ((HCS.out.keep B3.out).keep K0.out.bel).at_ (show k < nc by omega)
     have HOK := hide (show apC r1 ⟨zk, zx, zy, zs, zo⟩ = 0 by rw [HR1.out]; exact HRU.out k _ hk hz)
     have HR2 := hide (show apD r1 ⟨zk, zx, zy, zs, zo⟩ = apN d ms (k + 1) by rw [HR1.out]; exact (apN_succ _ _ _ _ hz).symm)
     clear hz
     have K1 := hide (K0.out.below ((Below.refl wr.heap.size wr).alloc (Nat.le_refl _) (.cells #[.int .i64 zk, .int .i64 zx, .int .i64 zy, .int .i64 zs, .bool zo] 36)))
     clear hkg hr1 hr2 hl5 hl5' t0
     go_wp2_with fail
     refine (apply_n r1 HRV.out A9 B9 n c8 c9 m9 lp zk zx zy zs zo _ K1.out.hn K1.out.hm K1.out.hl K1.out.dg).mono ?_
     intro e w5 hres
     obtain ⟨A8, B8, b8, b9, k9, x9, y9, s9, o9, hmv, rfl, hT⟩ := (hres.2.1 HOK.out).split
     have K5 := hide (K1.out.below hres.2.2)
     obtain ⟨r2, hr2⟩ : ∃ r2, r2 = apD r1 ⟨zk, zx, zy, zs, zo⟩ := ⟨_, rfl⟩
     rw [← hr2] at hT HR2 ⊢
     have HT := hide hT
     obtain ⟨N8, hN8⟩ : ∃ n, n = r2.n := ⟨_, rfl⟩
     obtain ⟨M8, hM8⟩ : ∃ n, n = 4 * r2.n := ⟨_, rfl⟩
     obtain ⟨L8, hL8⟩ : ∃ n, n = r2.lp := ⟨_, rfl⟩
     rw [← hM8, ← hN8, ← hL8]
     have HN8 := hide hN8
     have HM8 := hide hM8
     have HL8 := hide hL8
     clear hmv hT hres hr2 hN8 hM8 hL8 d0 d1 d2 d3 K1 K0 x0 x1 x2 x3 x4
     have hw5 : ga < w5.heap.size := K5.out.at_.lt
     go_upto_region 10 with fail
     obtain ⟨V2, hV2⟩ : ∃ V, V = (w5.alloc (.cells #[.slice A8 N8 b8, .slice B8 M8 b9, .int .i64 (L8 : Int)] 24)).alloc (.cells #[.int .i64 k9, .int .i64 x9, .int .i64 y9, .int .i64 s9, .bool o9] 36) := ⟨_, rfl⟩
     obtain ⟨g8, hg8⟩ : ∃ g, g = w5.heap.size := ⟨_, rfl⟩
     have b6 : Below w5.heap.size w5 V2 := by rw [hV2]; exact ((Below.refl w5.heap.size w5).alloc (Nat.le_refl _) _).alloc (by simp) _
     have R8 := hide (show Row V2 g8 24 [.slice A8 N8 b8, .slice B8 M8 b9, .int .i64 (L8 : Int)] by rw [hV2, hg8]; exact (row_at (vs := [.slice A8 N8 b8, .slice B8 M8 b9, .int .i64 (L8 : Int)]) rfl).alloc _)
     have T8 := hide (HT.out.keep b6)
     have K8 := hide (K5.out.below b6)
     rw [← hV2, ← hg8]
     have hg8a : ga < g8 := by omega
     clear hV2 hg8 b6 K5 HT
     obtain ⟨e0, e1, e2, e3⟩ := box3 R8.out
     obtain ⟨f0, f1, f2, f3⟩ := box3 K8.out.at_
     go_wp2
     go_roundg (gk - 1)
     case measure => have := HKG.out; omega
     case rel =>
      refine ⟨k + 1, A8, B8, N8, b8, M8, b9, L8, by have := HKG.out; omega, rfl, rfl, by go_num, ?_⟩
      rw [← HR2.out]
      exact ⟨HN8.out, HM8.out, HL8.out, row3 K8.out.at_ rfl _ _ _, .inl (T8.out.set3 K8.out.at_ _ _ _), below3 K8.out.bel hga0 _ _ _⟩
    ·have hki : ¬ ((k : Int) < (nc : Int)) := by omega
     obtain rfl : k = nc := by omega
     have X9 := hide (X3.out.below K0.out.bel)
     have B9 := hide (B3.out.trans (K0.out.bel.mono B3.out.size))
     have HEQ := hide (show apN d ms ms.length = r1 by rw [← HLEN.out]; exact HR1.out.symm)
     clear d0 d1 d2 d3 hkg
     obtain ⟨d0, d1, d2, d3⟩ := box3 X9.out
     go_wp2_with fail
     refine (play_leads d HD.out A B C cp cq m k cc ms _ HM.out (HG.out.keep B9.out) (HCS.out.keep B9.out) (by omega) HL.out).mono ?_
     rintro e w4 ⟨A4, B4, M4, c4, c4', c4'', n4, m4, l4, bs4, hn4, hm4, hl4', hv4, rfl, hT4, _, hb4⟩
     rw [HEQ.out] at hn4 hl4' hT4
     have HN4 := hide hn4
     have HM4 := hide hm4
     have HL4 := hide hl4'
     have T4 := hide hT4
     have X4 := hide (X9.out.below hb4)
     have B4' := hide (B9.out.trans (hb4.mono B9.out.size))
     have K4 := hide (K0.out.below hb4)
     clear hn4 hm4 hl4' hv4 hT4 hb4 X9 B9 K0 d0 d1 d2 d3
     have hrn4 : n4 ≤ 64 := by rw [HN4.out]; exact HRV.out.wf.few
     have hw4 : w.heap.size < w4.heap.size := X4.out.lt
     have hga4 : ga < w4.heap.size := K4.out.at_.lt
     go_upto_region 16 with fail
     obtain ⟨V, hV⟩ : ∃ V, V = w4.alloc (.cells #[.slice A4 n4 c4, .slice B4 m4 c4', .int .i64 (l4 : Int)] 24) := ⟨_, rfl⟩
     have b6 : Below w4.heap.size w4 V := by rw [hV]; exact (Below.refl _ _).alloc (Nat.le_refl _) _
     obtain ⟨g4, hg4⟩ : ∃ g, g = w4.heap.size := ⟨_, rfl⟩
     have G6 := hide (show Row V g4 24 [.slice A4 n4 c4, .slice B4 m4 c4', .int .i64 (l4 : Int)] by rw [hV, hg4]; exact row_at (vs := [.slice A4 n4 c4, .slice B4 m4 c4', .int .i64 (l4 : Int)]) rfl)
     rw [← hV]
     have V6 := hide (X4.out.below b6)
     have B6 := hide (B4'.out.trans (b6.mono B4'.out.size))
     have T6 := hide (T4.out.keep b6)
     have K6 := hide (K4.out.below b6)
     clear b6 hV X4 B4' T4 K4
     rw [← hg4]
     clear hg4
     obtain ⟨d0, d1, d2, d3⟩ := box3 V6.out
     have hv0 : w.heap.size < V.heap.size := V6.out.lt
     have hv4 : g4 < V.heap.size := G6.out.lt
     have DD := hide (show DgAt V.drew A B d from HG.out.keep B6.out.drew)
     have C1D := hide (show MvsA V.drew C1 l (ms.take l) from HC1.out.keep B6.out.drew)
     have C2D := hide (show MvsA V.drew C2 (k - l) (ms.drop l) from HC2.out.keep B6.out.drew)
     have HJ := hide (fun (W : World) hg hc hc2 => join_all d HD.out A B C1 C2 cp cq m l (k - l) cc (cc - l) ms W HL.out (by rw [← HLEN.out]; exact hl4) HM.out hg hc hc2 (by omega) (by omega))
     rw [HEQ.out] at HJ
     go_cut [20, 21] (fun s20 s21 wx => ∃ (g7 : Nat) (A7 B7 : Option Addr) (c7 c7' n7 m7 l7 : Nat), s20 = .pointer (some ⟨g7, 0, none⟩) ∧ s21 = .int .i64 0 ∧ V.heap.size ≤ g7 ∧ n7 = r1.n ∧ m7 = 4 * n7 ∧ l7 = r1.lp ∧ Row wx g7 24 [.slice A7 n7 c7, .slice B7 m7 c7', .int .i64 (l7 : Int)] ∧ DgT wx A7 B7 r1 ∧ Below V.heap.size V wx)
     case first =>
      go_region_with (first
       | (go_at_call 23
          refine (HJ.out _ (DD.out.keep ((Below.refl _ _).alloc (Nat.le_refl _) _)) (C1D.out.keep ((Below.refl _ _).alloc (Nat.le_refl _) _)) (C2D.out.keep ((Below.refl _ _).alloc (Nat.le_refl _) _))).mono ?_
          rintro e w7 ⟨A7, B7, c7, c7', n7, m7, l7, hn7, hm7, hl7, _, rfl, hT7, hb7⟩
          have r9 := (row_at (W := V.drew) (g := V.heap.size) (t := 24) (vs := [.slice none 0 0, .slice none 0 0, .int .i64 0]) rfl).below hb7
          have H1 := hide hn7
          have H2 := hide hm7
          have H3 := hide hl7
          clear hn7 hm7 hl7
          obtain ⟨e0, e1, e2, e3⟩ := box3 r9)
       | (go_at_call 23
          refine (HJ.out _ DD.out C1D.out C2D.out).mono ?_
          rintro e w7 ⟨A7, B7, c7, c7', n7, m7, l7, hn7, hm7, hl7, _, rfl, hT7, hb7⟩
          have H1 := hide hn7
          have H2 := hide hm7
          have H3 := hide hl7
          clear hn7 hm7 hl7))
      all_goals (go_wp2_with fail; go_meet)
      ·exact ⟨w7.heap.size, A7, B7, c7, c7', n7, m7, l7, rfl, rfl, hb7.size, H1.out, H2.out, H3.out, row_at (vs := [.slice A7 _ c7, .slice B7 _ c7', .int .i64 _]) rfl, hT7.keep ((Below.refl _ _).alloc (Nat.le_refl _) _), (below_dr hb7).alloc hb7.size _⟩
      ·exact ⟨V.heap.size, A7, B7, c7, c7', n7, m7, l7, rfl, rfl, Nat.le_refl _, H1.out, H2.out, H3.out, row3 r9 rfl _ _ _, hT7.set3 r9 _ _ _, below3 (below_drB hb7) (Nat.le_refl _) _ _ _⟩
      ·exact ⟨V.heap.size, A7, B7, c7, c7', n7, m7, l7, rfl, rfl, Nat.le_refl _, H1.out, H2.out, H3.out, row3 r9 rfl _ _ _, hT7.set3 r9 _ _ _, below3 (below_drB hb7) (Nat.le_refl _) _ _ _⟩
     case rest =>
      obtain ⟨g7, A7, B7, c7, c7', n7, m7, l7, rfl, rfl, hg7, hn7, hm7, hl7, hr7, hT7, hb7⟩ := hcut
      have HN7 := hide hn7
      have HM7 := hide hm7
      have HL7 := hide hl7
      have R7 := hide hr7
      have T7 := hide hT7
      have K7 := hide (K6.out.below hb7)
      have G7 := hide (G6.out.below hb7)
      have S7 := hide (T6.out.keep hb7)
      have B7' := hide (B6.out.trans (hb7.mono B6.out.size))
      clear HJ DD C1D C2D d0 d1 d2 d3 hr1 hr2 hn7 hm7 hl7 hr7 hT7 hb7 K6 G6 T6 V6 B6 hl5 hl5' t0
      obtain ⟨d0, d1, d2, d3⟩ := box3 K7.out.at_
      obtain ⟨e0, e1, e2, e3⟩ := box3 G7.out
      have hrn : r1.n ≤ 1000 := by have := HRV.out.wf.few; omega
      go_wp2_with fail
      refine (equal_n r1 A9 B9 A4 B4 n m9 lp n4 m4 l4 c8 c9 c4 c4' _ K7.out.dg S7.out.at K7.out.hn HN4.out K7.out.hm (by rw [HM4.out, HN4.out]) K7.out.hl HL4.out hrn).mono ?_
      rintro e w8 ⟨rfl, hb8⟩
      have R8 := hide (R7.out.below hb8)
      have T8 := hide (T7.out.keep hb8)
      have K8 := hide (K7.out.below hb8)
      have B8 := hide (B7'.out.trans (hb8.mono B7'.out.size))
      clear hb8 K7 G7 S7 R7 T7 B7' d0 d1 d2 d3 e0 e1 e2 e3
      obtain ⟨d0, d1, d2, d3⟩ := box3 K8.out.at_
      obtain ⟨e0, e1, e2, e3⟩ := box3 R8.out
      go_wp2_with fail
      refine (equal_n r1 A9 B9 A7 B7 n m9 lp n7 m7 l7 c8 c9 c7 c7' _ K8.out.dg T8.out.at K8.out.hn HN7.out K8.out.hm (by rw [HM7.out, HN7.out]) K8.out.hl HL7.out hrn).mono ?_
      rintro e w9 ⟨rfl, hb9⟩
      have B9 := hide (B8.out.trans (hb9.mono B8.out.size))
      clear hb9
      go_wp2
      go_ret
      exact ⟨rfl, B9.out⟩
set_option maxRecDepth 100000 in
set_option maxHeartbeats 8000000 in
theorem steps_flt (d : Pl.Dg) (hd : Pl.Valid d) (A B C : Option Addr) (cp cq m nc cc ct : Nat) (ms : List Mv) (w : World) (hm : m = 4 * d.n) (hg : DgAt w A B d) (hc : MvsA w C nc ms) (hcc : nc ≤ cc) (hcm : cc ≤ maxLen) {jf : Nat} {zf : Mv} (hl : Flt1 d ms jf zf) (hgv : GV w) (hct : ct < 256) :
 Calls Tryz.prog 6 #[.agg #[.slice A d.n cp, .slice B m cq, .int .i64 d.lp], .slice C nc cc, .int .u8 (ct : Int)] w fun e w' => e = .returned (.bool true) ∧ Below w.heap.size w w' := by
 have HL := hide hl
 have HM := hide hm
 have HG := hide hg
 have HCS := hide hc
 have HGV := hide hgv
 have HD := hide hd
 have HLEN := hide hc.1
 have hn := hd.wf.few
 have hlp := hd.wf.lp
 unfold maxLen at hcm
 clear hm hg hc hgv hl
 have X0 := hide (row_at (W := w) (g := w.heap.size) (t := 24) (vs := [.slice A d.n cp, .slice B m cq, .int .i64 (d.lp : Int)]) rfl)
 have B0 := hide (show Below w.heap.size w (w.alloc (.cells #[.slice A d.n cp, .slice B m cq, .int .i64 (d.lp : Int)] 24)) from (Below.refl _ _).alloc (Nat.le_refl _) _)
 go_enter Tryz.func6, Tryz.ntmps6
 go_wp2_with fail
 refine (awake09 _ (HGV.out.below B0.out)).mono ?_
 rintro e w1 ⟨rfl, hb1⟩
 have X1 := hide (X0.out.below hb1)
 have B1 := hide (B0.out.trans (hb1.mono B0.out.size))
 clear X0 B0 hb1 HGV
 obtain ⟨d0, d1, d2, d3⟩ := box3 X1.out
 go_wp2_with fail
 refine (great09_any A B C d.n m cp cq nc cc d.lp w1).mono ?_
 rintro e w2 ⟨rfl, hb2⟩
 have X2 := hide (X1.out.below hb2)
 have B2 := hide (B1.out.trans (hb2.mono B1.out.size))
 clear X1 B1 hb2 d0 d1 d2 d3
 obtain ⟨gb, hgb⟩ : ∃ b, b = decide (16 < d.n ∨ 64 < m ∨ 30 < nc) := ⟨_, rfl⟩
 rw [← hgb]
 obtain ⟨d0, d1, d2, d3⟩ := box3 X2.out
 cases gb with
 | true =>
   clear hgb
   go_wp2
   go_ret
   exact ⟨rfl, B2.out⟩
 | false =>
   have hnc : nc ≤ 30 := by have := of_decide_eq_false hgb.symm; omega
   clear hgb
   go_wp2_with fail
   refine (valid_yes d HD.out A B cp cq m _ HM.out (HG.out.keep B2.out)).mono ?_
   rintro e w3 ⟨rfl, hb3⟩
   have X3 := hide (X2.out.below hb3)
   have B3 := hide (B2.out.trans (hb3.mono B2.out.size))
   have hw3 : w.heap.size < w3.heap.size := X3.out.lt
   clear X2 B2 hb3 d0 d1 d2 d3
   obtain ⟨d0, d1, d2, d3⟩ := box3 X3.out
   go_upto_region 6 with fail
   obtain ⟨V, hV⟩ : ∃ V, V = w3.alloc (.cells #[.slice A d.n cp, .slice B m cq, .int .i64 (d.lp : Int)] 24) := ⟨_, rfl⟩
   obtain ⟨ga, hga⟩ : ∃ g, g = w3.heap.size := ⟨_, rfl⟩
   have hga0 : w3.heap.size ≤ ga := by omega
   have L0 := hide (show LI w3 ga (apN d ms 0) A B d.n cp m cq d.lp V from by
    have e : apN d ms 0 = d := by cases ms <;> rfl
    rw [e, hV, hga]
    exact ⟨rfl, HM.out, rfl, row_at (vs := [.slice A d.n cp, .slice B m cq, .int .i64 (d.lp : Int)]) (by simp), .inr (HG.out.keep B3.out), (Below.refl _ _).alloc (Nat.le_refl _) _⟩)
   rw [← hV, ← hga]
   clear hV hga d0 d1 d2 d3
   have t0 : ¬ ((nc : Int) + 1 = 0) := by omega
   obtain ⟨l, hl⟩ : ∃ l, l = ct % (nc + 1) := ⟨_, rfl⟩
   have hl5 : (ct : Int) % ((nc : Int) + 1) = (l : Int) := by rw [hl]; rfl
   have hl5' : (ct : Int).tmod ((nc : Int) + 1) = (l : Int) := by rw [hl]; rfl
   have hl4 : l ≤ nc := by have := Nat.mod_lt ct (show nc + 1 > 0 by omega); omega
   clear hl
   obtain ⟨C1, hc1, hr1⟩ := cutM_lo HCS.out hl4 hcc
   obtain ⟨C2, hc2, hr2⟩ := cutM_hi HCS.out hl4 hcc
   have HC1 := hide hc1
   have HC2 := hide hc2
   clear hc1 hc2
   have hjn : jf < nc := by rw [HLEN.out]; exact (List.getElem?_eq_some_iff.1 HL.out.1).1
   have HAL := hide (show ∀ k, k ≤ jf → Pl.Valid (apN d ms k) from fun k hk => apN_valid HD.out HL.out.2.1 k hk (by rw [← HLEN.out]; omega))
   have HRU := hide (show ∀ (k : Nat) (z : Mv), k < jf → ms[k]? = some z → apC (apN d ms k) z = 0 from HL.out.2.1)
   obtain ⟨ce, hce⟩ : ∃ c, c = apC (apN d ms jf) zf := ⟨_, rfl⟩
   have HCE := hide hce
   have hce0 : ce ≠ 0 := by rw [hce]; exact HL.out.2.2
   have hcen : (ce != 0) = true := by rw [bne_iff_ne]; exact hce0
   have hceb : (ce == 0) = false := by rw [beq_eq_false_iff_ne]; exact hce0
   clear hce
   go_wp2_with fail
   go_loopg [8, 9, 10, 11, 12, 13, 14, 35] nc (fun g s8 s9 s10 s11 s12 s13 s14 i wx => ∃ (k : Nat) (A9 B9 : Option Addr) (n c8 m c9 lp : Nat), k + g = nc ∧ k ≤ jf ∧ s8 = .int .i64 (-1) ∧ s9 = .int .i64 0 ∧ i = .int .i64 (k : Int) ∧ LI w3 ga (apN d ms k) A9 B9 n c8 m c9 lp wx)
   case atStart => exact ⟨0, _, _, _, _, _, _, _, by omega, Nat.zero_le _, rfl, rfl, rfl, L0.out⟩
   case round =>
    clear L0
    obtain ⟨k, A9, B9, n, c8, m9, c9, lp, hkg, hkj, rfl, rfl, rfl, hl⟩ := hrel
    have HKG := hide hkg
    have K0 := hide hl
    have hknc : k ≤ nc := by omega
    clear hl
    obtain ⟨d0, d1, d2, d3⟩ := box3 K0.out.at_
    have HRV := hide (HAL.out k hkj)
    obtain ⟨r1, hr1⟩ : ∃ r, r = apN d ms k := ⟨_, rfl⟩
    rw [← hr1] at K0 HRV
    have HR1 := hide hr1
    clear hr1
    have hlp1 := HRV.out.wf.lp
    rw [← K0.out.hl] at hlp1
    have hrn1 := HRV.out.wf.few
    rw [← K0.out.hn] at hrn1
    have hgw : ga < wr.heap.size := K0.out.at_.lt
    by_cases hk : k < jf
    ·have hki : (k : Int) < (nc : Int) := by omega
     have k0 : (0 : Int) ≤ (k : Int) := by omega
     obtain ⟨bb, oo, zk, zx, zy, zs, zo, rfl, hz, x0, x1, x2, x3, x4⟩ := ((HCS.out.keep B3.out).keep K0.out.bel).at_ (show k < nc by omega)
     have HOK := hide (show apC r1 ⟨zk, zx, zy, zs, zo⟩ = 0 by rw [HR1.out]; exact HRU.out k _ hk hz)
     have HR2 := hide (show apD r1 ⟨zk, zx, zy, zs, zo⟩ = apN d ms (k + 1) by rw [HR1.out]; exact (apN_succ _ _ _ _ hz).symm)
     clear hz
     have K1 := hide (K0.out.below ((Below.refl wr.heap.size wr).alloc (Nat.le_refl _) (.cells #[.int .i64 zk, .int .i64 zx, .int .i64 zy, .int .i64 zs, .bool zo] 36)))
     clear hkg hr1 hr2 hl5 hl5' t0
     go_wp2_with fail
     refine (apply_n r1 HRV.out A9 B9 n c8 c9 m9 lp zk zx zy zs zo _ K1.out.hn K1.out.hm K1.out.hl K1.out.dg).mono ?_
     intro e w5 hres
     obtain ⟨A8, B8, b8, b9, k9, x9, y9, s9, o9, hmv, rfl, hT⟩ := (hres.2.1 HOK.out).split
     have K5 := hide (K1.out.below hres.2.2)
     obtain ⟨r2, hr2⟩ : ∃ r2, r2 = apD r1 ⟨zk, zx, zy, zs, zo⟩ := ⟨_, rfl⟩
     rw [← hr2] at hT HR2 ⊢
     have HT := hide hT
     obtain ⟨N8, hN8⟩ : ∃ n, n = r2.n := ⟨_, rfl⟩
     obtain ⟨M8, hM8⟩ : ∃ n, n = 4 * r2.n := ⟨_, rfl⟩
     obtain ⟨L8, hL8⟩ : ∃ n, n = r2.lp := ⟨_, rfl⟩
     rw [← hM8, ← hN8, ← hL8]
     have HN8 := hide hN8
     have HM8 := hide hM8
     have HL8 := hide hL8
     clear hmv hT hres hr2 hN8 hM8 hL8 d0 d1 d2 d3 K1 K0 x0 x1 x2 x3 x4
     have hw5 : ga < w5.heap.size := K5.out.at_.lt
     go_upto_region 10 with fail
     obtain ⟨V2, hV2⟩ : ∃ V, V = (w5.alloc (.cells #[.slice A8 N8 b8, .slice B8 M8 b9, .int .i64 (L8 : Int)] 24)).alloc (.cells #[.int .i64 k9, .int .i64 x9, .int .i64 y9, .int .i64 s9, .bool o9] 36) := ⟨_, rfl⟩
     obtain ⟨g8, hg8⟩ : ∃ g, g = w5.heap.size := ⟨_, rfl⟩
     have b6 : Below w5.heap.size w5 V2 := by rw [hV2]; exact ((Below.refl w5.heap.size w5).alloc (Nat.le_refl _) _).alloc (by simp) _
     have R8 := hide (show Row V2 g8 24 [.slice A8 N8 b8, .slice B8 M8 b9, .int .i64 (L8 : Int)] by rw [hV2, hg8]; exact (row_at (vs := [.slice A8 N8 b8, .slice B8 M8 b9, .int .i64 (L8 : Int)]) rfl).alloc _)
     have T8 := hide (HT.out.keep b6)
     have K8 := hide (K5.out.below b6)
     rw [← hV2, ← hg8]
     have hg8a : ga < g8 := by omega
     clear hV2 hg8 b6 K5 HT
     obtain ⟨e0, e1, e2, e3⟩ := box3 R8.out
     obtain ⟨f0, f1, f2, f3⟩ := box3 K8.out.at_
     go_wp2
     go_roundg (gk - 1)
     case measure => have := HKG.out; omega
     case rel =>
      refine ⟨k + 1, A8, B8, N8, b8, M8, b9, L8, by have := HKG.out; omega, by omega, rfl, rfl, by go_num, ?_⟩
      rw [← HR2.out]
      exact ⟨HN8.out, HM8.out, HL8.out, row3 K8.out.at_ rfl _ _ _, .inl (T8.out.set3 K8.out.at_ _ _ _), below3 K8.out.bel hga0 _ _ _⟩
    ·obtain rfl : k = jf := by omega
     have hki : (k : Int) < (nc : Int) := by omega
     have k0 : (0 : Int) ≤ (k : Int) := by omega
     obtain ⟨bb, oo, zk, zx, zy, zs, zo, rfl, hz, x0, x1, x2, x3, x4⟩ := ((HCS.out.keep B3.out).keep K0.out.bel).at_ (show k < nc by omega)
     have HCZ := hide (show apC r1 ⟨zk, zx, zy, zs, zo⟩ = ce by
      have h := HL.out.1
      rw [hz] at h
      injection h with h
      rw [HCE.out, HR1.out, h])
     clear hz
     have K1 := hide (K0.out.below ((Below.refl wr.heap.size wr).alloc (Nat.le_refl _) (.cells #[.int .i64 zk, .int .i64 zx, .int .i64 zy, .int .i64 zs, .bool zo] 36)))
     clear hkg
     go_wp2_with fail
     refine (apply_n r1 HRV.out A9 B9 n c8 c9 m9 lp zk zx zy zs zo _ K1.out.hn K1.out.hm K1.out.hl K1.out.dg).mono ?_
     intro e w5 hres
     have hE := hres.1 (by rw [HCZ.out]; exact hce0)
     rw [HCZ.out] at hE
     obtain rfl := hE.split
     have b5 := ((Below.refl w5.heap.size w5).alloc (Nat.le_refl _) (.cells #[.slice none 0 0, .slice none 0 0, .int .i64 0] 24)).alloc (by simp) (.cells #[.int .i64 0, .int .i64 0, .int .i64 0, .int .i64 0, .bool false] 36)
     have K5 := hide ((K1.out.below hres.2.2).below b5)
     clear hE hres x0 x1 x2 x3 x4 d0 d1 d2 d3 K1 K0 b5
     obtain ⟨wz, hwz⟩ : ∃ W, W = (w5.alloc (.cells #[.slice none 0 0, .slice none 0 0, .int .i64 0] 24)).alloc (.cells #[.int .i64 0, .int .i64 0, .int .i64 0, .int .i64 0, .bool false] 36) := ⟨_, rfl⟩
     rw [← hwz] at K5
     have X9 := hide (X3.out.below K5.out.bel)
     have B9 := hide (B3.out.trans (K5.out.bel.mono B3.out.size))
     go_upto_region 10 with fail
     rw [← hwz]
     clear hwz
     obtain ⟨d0, d1, d2, d3⟩ := box3 X9.out
     go_wp2_with fail
     refine (play_fault d HD.out A B _ cp cq m nc cc ms _ HM.out (HG.out.keep B9.out) (HCS.out.keep B9.out) (by omega) HL.out).mono ?_
     rintro e w4 ⟨rfl, hb4⟩
     rw [← HCE.out]
     have X4 := hide (X9.out.below hb4)
     have B4' := hide (B9.out.trans (hb4.mono B9.out.size))
     clear hb4 X9 B9 d0 d1 d2 d3
     have hw4 : w.heap.size < w4.heap.size := X4.out.lt
     go_upto_region 16 with fail
     obtain ⟨V, hV⟩ : ∃ V, V = w4.alloc (.cells #[.slice none 0 0, .slice none 0 0, .int .i64 0] 24) := ⟨_, rfl⟩
     have b6 : Below w4.heap.size w4 V := by rw [hV]; exact (Below.refl _ _).alloc (Nat.le_refl _) _
     rw [← hV]
     have V6 := hide (X4.out.below b6)
     have B6 := hide (B4'.out.trans (b6.mono B4'.out.size))
     clear b6 hV X4 B4' K5
     obtain ⟨d0, d1, d2, d3⟩ := box3 V6.out
     have hv0 : w.heap.size < V.heap.size := V6.out.lt
     have DD := hide (show DgAt V.drew A B d from HG.out.keep B6.out.drew)
     have C1D := hide (show MvsA V.drew C1 l (ms.take l) from HC1.out.keep B6.out.drew)
     have C2D := hide (show MvsA V.drew C2 (nc - l) (ms.drop l) from HC2.out.keep B6.out.drew)
     have HJ := hide (fun (W : World) hg hc hc2 => join_flt d HD.out A B C1 C2 cp cq m l (nc - l) cc (cc - l) ms W HL.out (by rw [← HLEN.out]; exact hl4) HM.out hg hc hc2 (by omega) (by omega))
     rw [← HCE.out] at HJ
     go_cut [20, 21] (fun s20 s21 wx => ∃ (g7 : Nat), s20 = .pointer (some ⟨g7, 0, none⟩) ∧ s21 = .int .i64 ce ∧ V.heap.size ≤ g7 ∧ Row wx g7 24 [.slice none 0 0, .slice none 0 0, .int .i64 0] ∧ Below V.heap.size V wx)
     case first =>
      go_region_with (first
       | (go_at_call 23
          refine (HJ.out _ (DD.out.keep ((Below.refl _ _).alloc (Nat.le_refl _) _)) (C1D.out.keep ((Below.refl _ _).alloc (Nat.le_refl _) _)) (C2D.out.keep ((Below.refl _ _).alloc (Nat.le_refl _) _))).mono ?_
          rintro e w7 ⟨rfl, hb7⟩
          have r9 := (row_at (W := V.drew) (g := V.heap.size) (t := 24) (vs := [.slice none 0 0, .slice none 0 0, .int .i64 0]) rfl).below hb7
          obtain ⟨e0, e1, e2, e3⟩ := box3 r9)
       | (go_at_call 23
          refine (HJ.out _ DD.out C1D.out C2D.out).mono ?_
          rintro e w7 ⟨rfl, hb7⟩))
      all_goals (go_wp2_with fail; go_meet)
      ·exact ⟨w7.heap.size, rfl, rfl, hb7.size, row_at (vs := [.slice none 0 0, .slice none 0 0, .int .i64 0]) rfl, (below_dr hb7).alloc hb7.size _⟩
      ·exact ⟨V.heap.size, rfl, rfl, Nat.le_refl _, row3 r9 rfl _ _ _, below3 (below_drB hb7) (Nat.le_refl _) _ _ _⟩
      ·exact ⟨V.heap.size, rfl, rfl, Nat.le_refl _, row3 r9 rfl _ _ _, below3 (below_drB hb7) (Nat.le_refl _) _ _ _⟩
     case rest =>
      obtain ⟨g7, rfl, rfl, hg7, hr7, hb7⟩ := hcut
      have R7 := hide hr7
      have B7' := hide (B6.out.trans (hb7.mono B6.out.size))
      clear HJ DD C1D C2D d0 d1 d2 d3 hr1 hr2 hr7 hb7 V6 B6 hl5 hl5' t0
      obtain ⟨d0, d1, d2, d3⟩ := box3 R7.out
      go_wp2_with fail
      refine (requal_eq [] [] 0 none none none none 0 0 0 0 0 0 _ (RowAt.nil _) (RowAt.nil _) (RowAt.nil _) (RowAt.nil _) (by omega) (by omega)).mono ?_
      rintro e w9 ⟨rfl, hb9⟩
      have B9 := hide (B7'.out.trans (hb9.mono B7'.out.size))
      clear hb9
      go_wp2
      go_ret
      exact ⟨rfl, B9.out⟩
set_option maxRecDepth 100000 in
set_option maxHeartbeats 4000000 in
theorem steps_bad (sg mt : List Int) (lp : Int) (A B C : Option Addr) (n q cp cq nc cc ct : Nat) (ms : List Mv) (w : World) (hs : IntsAt w A n sg) (hm : IntsAt w B q mt) (hn : n ≤ maxLen) (hq : q ≤ maxLen) (hlp : -9223372036854775808 ≤ lp ∧ lp ≤ 9223372036854775807) (hcm : nc ≤ maxLen) (hv : ¬ Pl.VL sg mt lp) (hgv : GV w) :
 Calls Tryz.prog 6 #[.agg #[.slice A n cp, .slice B q cq, .int .i64 lp], .slice C nc cc, .int .u8 (ct : Int)] w fun e w' => e = .returned (.bool true) ∧ Below w.heap.size w w' := by
 have HS := hide hs
 have HM := hide hm
 have HGV := hide hgv
 have HV := hide hv
 unfold maxLen at hcm
 clear hm hs hgv hv
 have X0 := hide (row_at (W := w) (g := w.heap.size) (t := 24) (vs := [.slice A n cp, .slice B q cq, .int .i64 lp]) rfl)
 have B0 := hide (show Below w.heap.size w (w.alloc (.cells #[.slice A n cp, .slice B q cq, .int .i64 lp] 24)) from (Below.refl _ _).alloc (Nat.le_refl _) _)
 go_enter Tryz.func6, Tryz.ntmps6
 go_wp2_with fail
 refine (awake09 _ (HGV.out.below B0.out)).mono ?_
 rintro e w1 ⟨rfl, hb1⟩
 have X1 := hide (X0.out.below hb1)
 have B1 := hide (B0.out.trans (hb1.mono B0.out.size))
 clear X0 B0 hb1 HGV
 obtain ⟨d0, d1, d2, d3⟩ := box3 X1.out
 go_wp2_with fail
 refine (great09_any A B C n q cp cq nc cc lp w1).mono ?_
 rintro e w2 ⟨rfl, hb2⟩
 have X2 := hide (X1.out.below hb2)
 have B2 := hide (B1.out.trans (hb2.mono B1.out.size))
 clear X1 B1 hb2 d0 d1 d2 d3
 obtain ⟨gb, hgb⟩ : ∃ b, b = decide (16 < n ∨ 64 < q ∨ 30 < nc) := ⟨_, rfl⟩
 rw [← hgb]
 clear hgb
 obtain ⟨d0, d1, d2, d3⟩ := box3 X2.out
 cases gb with
 | true =>
   go_wp2
   go_ret
   exact ⟨rfl, B2.out⟩
 | false =>
   go_wp2_with fail
   refine (valid_any sg mt lp A B n q cp cq _ (HS.out.keep B2.out) (HM.out.keep B2.out) hn hq hlp).mono ?_
   rintro e w3 ⟨rfl, hb3⟩
   rw [Pl.vb_false HV.out]
   have B3 := hide (B2.out.trans (hb3.mono B2.out.size))
   clear hb3
   go_wp2
   go_ret
   exact ⟨rfl, B3.out⟩
theorem movieSteps_walk (sg mt : List Int) (lp : Int) (A B : Option Addr) (n q cp cq : Nat) (C : Option Addr) (nc cc : Nat) (ms : List Mv) (ct : Nat) (w : World) (hs : IntsAt w A n sg) (hm : IntsAt w B q mt) (hn : n ≤ maxLen) (hq : q ≤ maxLen) (hlp : -9223372036854775808 ≤ lp ∧ lp ≤ 9223372036854775807) (hc : MvsA w C nc ms) (hcc : nc ≤ cc) (hcm : cc ≤ maxLen) (_hin : ∀ m, m ∈ ms → MvIn m) (hct : ct < 256) (hgv : GV w) :
 Calls Tryz.prog 6 #[.agg #[.slice A n cp, .slice B q cq, .int .i64 lp], .slice C nc cc, .int .u8 (ct : Int)] w fun e w' => e = .returned (.bool true) ∧ Below w.heap.size w w' := by
 by_cases hv : Pl.VL sg mt lp
 ·have hl := hs.len
  have hl2 := hm.len
  have hl3 := hv.len
  have en : (Pl.mk sg mt lp).n = n := hl
  have em : nats (Pl.mk sg mt lp).mt = mt := Pl.nats_mk hv.2.1
  have el : ((Pl.mk sg mt lp).lp : Int) = lp := by show ((lp.toNat : Nat) : Int) = lp; have := hv.2.2; omega
  have e1 : q = 4 * (Pl.mk sg mt lp).n := by rw [en]; omega
  have e2 : DgAt w A B (Pl.mk sg mt lp) := ⟨by rw [en]; exact hs, by rw [en, em, show 4 * n = q by omega]; exact hm⟩
  rw [← en, ← el]
  rcases lgl_or (Pl.mk sg mt lp) ms with h | ⟨j, z, h⟩
  ·exact steps_all _ hv.1 A B C cp cq q nc cc ct ms w e1 e2 hc hcc hcm h hgv hct
  ·exact steps_flt _ hv.1 A B C cp cq q nc cc ct ms w e1 e2 hc hcc hcm h hgv hct
 ·exact steps_bad sg mt lp A B C n q cp cq nc cc ct ms w hs hm hn hq hlp (Nat.le_trans hcc hcm) hv hgv
end Go.Proofs.YtlffopdoeobgaaaGreatDoor
end
