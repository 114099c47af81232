/-
 The texts Xk, Sgn, Xl, Xg, Xh, Xx, Ya, Xy, Yd in one.
-/
import Derived.Test.YtlffopdoeobgaaaGreatDoorS12
import Derived.Test.YtlffopdoeobgaaaGreatDoorS13
import Derived.Test.YtlffopdoeobgaaaGreatDoorS00
import Derived.Test.YtlffopdoeobgaaaGreatDoorS04
import Derived.Test.YtlffopdoeobgaaaGreatDoorS15
import Derived.Deep.DeepCutAuto
set_option linter.unusedVariables false
set_option linter.unusedSimpArgs false
section
namespace Go.Proofs.YtlffopdoeobgaaaGreatDoor
open Go Go.RowKit
attribute [local go_sem ↓] Go.wp_at_zero Go.wp_at_succ
set_option maxRecDepth 100000 in
set_option maxHeartbeats 4000000 in
theorem apply_5 (d : Pl.Dg) (hd : Pl.Valid d) (A B : Option Addr) (cp cq m : Nat) (x : Nat) (y s : Int) (o : Bool) (w : World) (hm : m = 4 * d.n) (hg : DgAt w A B d) (hin : inR d.n ⟨5, (x : Int), y, s, o⟩) :
 Calls Tryz.prog 22 #[.agg #[.slice A d.n cp, .slice B m cq, .int .i64 d.lp], (Mv.mk 5 (x : Int) y s o).v] w (ResC (sldC d x) (sldD d x) (sldI d x) w) := by
 have hn := hd.wf.few
 have hlp := hd.wf.lp
 have HM := hide hm
 have HG := hide hg
 have hm2 : m ≤ 256 := by omega
 clear hm hg
 have PB0 := hide (boxes4 w (.slice A d.n cp) (.slice B m cq) (.int .i64 (d.lp : Int)) (.int .i64 5) (.int .i64 (x : Int)) (.int .i64 y) (.int .i64 s) (.bool o))
 unfold W4 at PB0
 obtain ⟨x0, x1, x2, x3, b0, s0⟩ := PB0.out
 have X0 := hide x0
 have X1 := hide x1
 have X2 := hide x2
 have X3 := hide x3
 have B0 := hide b0
 have S0 := hide s0
 clear x0 x1 x2 x3 b0 s0 PB0
 unfold Mv.v
 go_enter Tryz.func22, Tryz.ntmps22
 go_wp2_with fail
 refine (valid_yes d hd A B cp cq m _ HM.out (HG.out.keep B0.out)).mono ?_
 rintro e w1 ⟨rfl, hb1⟩
 have Y0 := hide (X0.out.below hb1)
 have Y1 := hide (X1.out.below hb1)
 have Y2 := hide (X2.out.below hb1)
 have Y3 := hide (X3.out.below hb1)
 have B1 := hide (B0.out.trans (hb1.mono B0.out.size))
 have hsz1 : w.heap.size + 4 ≤ w1.heap.size := by have := hb1.size; have := S0.out; omega
 clear X0 X1 X2 X3 B0 S0 hb1
 obtain ⟨d0, d1, d2, d3⟩ := box3 Y0.out
 obtain ⟨m0, m1, m2, m3, m4, m5⟩ := box5 Y1.out
 go_wp2_with fail
 refine (inRange_5 d.n (x : Int) y s o w1 (by omega)).mono ?_
 rintro e w2 ⟨rfl, hb2⟩
 rw [Pl.vb_true hin]
 have hsz : w.heap.size + 4 ≤ w2.heap.size := by have := hb2.size; omega
 have AB2 := hide (show AB w w2.heap.size (w2.heap.size + 1) [.slice A d.n cp, .slice B m cq, .int .i64 (d.lp : Int)] [.int .i64 5, .int .i64 (x : Int), .int .i64 y, .int .i64 s, .bool o] ((w2.alloc (.cells #[.slice none 0 0, .slice none 0 0, .int .i64 0] 24)).alloc (.cells #[.int .i64 0, .int .i64 0, .int .i64 0, .int .i64 0, .bool false] 36)) from
  ⟨((Y0.out.below hb2).alloc _).alloc _, ((Y1.out.below hb2).alloc _).alloc _, ⟨_, ((Y2.out.below hb2).alloc _).alloc _, rfl⟩, ⟨_, ((Y3.out.below hb2).alloc _).alloc _, rfl⟩, ⟨_, (row_at (vs := [_, _, _]) rfl).alloc _, rfl⟩, ⟨_, row_at (vs := [_, _, _, _, _]) (by simp), rfl⟩, ((B1.out.trans (hb2.mono B1.out.size)).alloc (B1.out.trans (hb2.mono B1.out.size)).size _).alloc ((B1.out.trans (hb2.mono B1.out.size)).alloc (B1.out.trans (hb2.mono B1.out.size)).size _).size _, by omega, by omega, by omega⟩)
 obtain ⟨d0', d1', d2', d3'⟩ := box3 (Y0.out.below hb2)
 obtain ⟨m0', m1', m2', m3', m4', m5'⟩ := box5 (Y1.out.below hb2)
 clear d0 d1 d2 d3 m0 m1 m2 m3 m4 m5 Y0 Y1 Y2 Y3 B1 hb2 hsz1
 have z1 : w.heap.size < w2.heap.size := by omega
 have z2 : w.heap.size + 1 < w2.heap.size := by omega
 have hx : x < 4 * d.n := by have := hin; unfold inR at this; simp at this; omega
 have HG2 := hide (HG.out.keep AB2.out.bel)
 go_wp2_with fail
 obtain ⟨gr, hgr⟩ : ∃ g, g = w2.heap.size := ⟨_, rfl⟩
 obtain ⟨gi, hgi⟩ : ∃ g, g = w2.heap.size + 1 := ⟨_, rfl⟩
 rw [← hgi, ← hgr] at AB2
 rw [← hgi, ← hgr]
 clear hgr hgi
 refine (slide_any d hd.wf A B cp cq m x 5 y s o _ HM.out HG2.out hx).mono ?_
 intro e w3 hres
 have AB3 := hide (AB2.out.below hres.2.2)
 obtain ⟨cc, hcc⟩ : ∃ c, c = sldC d x := ⟨_, rfl⟩
 obtain ⟨rr, hrr⟩ : ∃ r, r = sldD d x := ⟨_, rfl⟩
 obtain ⟨mm, hmm⟩ : ∃ r, r = sldI d x := ⟨_, rfl⟩
 unfold SldPost at hres
 rw [← hcc, ← hrr, ← hmm] at hres
 have HCC := hide hcc
 have HRR := hide hrr
 have HMM := hide hmm
 clear hcc hrr hmm d0' d1' d2' d3' m0' m1' m2' m3' m4' m5' AB2 HG2
 by_cases hc : cc = 0
 ·obtain ⟨A9, B9, c8, c9, k9, x9, y9, s9, o9, hmv, rfl, hT⟩ := ResOk.split (hres.2.1 hc)
  have HMV := hide hmv
  have HC := hide hc
  clear hmv hc
  have AD3 := hide (show AD w gr gi _ _ A9 B9 rr w3 from ⟨AB3.out, hT⟩)
  clear hT
  obtain ⟨N9, hN9⟩ : ∃ n, n = rr.n := ⟨_, rfl⟩
  obtain ⟨L9, hL9⟩ : ∃ n, n = rr.lp := ⟨_, rfl⟩
  rw [← hN9, ← hL9]
  have HN9 := hide hN9
  have HL9 := hide hL9
  clear hN9 hL9
  obtain ⟨_, r3, l3⟩ := AB3.out.r
  obtain ⟨_, r4, l4⟩ := AB3.out.i
  obtain ⟨_, r5, l5⟩ := AB3.out.rd
  obtain ⟨_, r6, l6⟩ := AB3.out.rm
  obtain ⟨e0, e1, e2, e3⟩ := cells3 r3 l3
  obtain ⟨f0, f1, f2, f3, f4, f5⟩ := cells5 r4 l4
  obtain ⟨g0, g1, g2, g3⟩ := cells3 r5 l5
  obtain ⟨h0, h1, h2, h3, h4, h5⟩ := cells5 r6 l6
  have y1 : gr ≠ w.heap.size + 1 + 1 := by have := AB3.out.lr; omega
  have y2 : gr ≠ w.heap.size + 1 + 1 + 1 := by have := AB3.out.lr; omega
  have y3 : gi ≠ w.heap.size + 1 + 1 := by have := AB3.out.li; omega
  have y4 : gi ≠ w.heap.size + 1 + 1 + 1 := by have := AB3.out.li; omega
  have y5 : gr ≠ gi := AB3.out.ne
  have y6 : w.heap.size + 1 + 1 ≠ w.heap.size + 1 + 1 + 1 := by omega
  clear r3 l3 r4 l4 r5 l5 r6 l6
  go_upto_region 22 with fail
  go_region
  go_wp2_with fail
  clear e0 e1 e2 e3 f0 f1 f2 f3 f4 f5 g0 g1 g2 g3 h0 h1 h2 h3 h4 h5
  have AD4 := hide ((((((((AD3.out.setR 0 (.slice A9 N9 c8)).setR 1 (.slice B9 (4 * N9) c9)).setR 2 (.int .i64 (L9 : Int))).setI 0 (.int .i64 k9)).setI 1 (.int .i64 x9)).setI 2 (.int .i64 y9)).setI 3 (.int .i64 s9)).setI 4 (.bool o9))
  obtain ⟨_, r5, l5⟩ := AD4.out.b.rd
  obtain ⟨_, r6, l6⟩ := AD4.out.b.rm
  refine bodyPost_ret (v := .tuple #[.agg #[.slice A9 N9 c8, .slice B9 (4 * N9) c9, .int .i64 (L9 : Int)], .agg #[.int .i64 k9, .int .i64 x9, .int .i64 y9, .int .i64 s9, .bool o9], .int .i64 0]) ?_ rfl ?_
  ·obtain ⟨e0, e1, e2, e3, e4, e5, e6, e7⟩ := fin8 r5 r6 l5 l6 (by omega) (.slice A9 N9 c8) (.slice B9 (4 * N9) c9) (.int .i64 (L9 : Int)) (.int .i64 k9) (.int .i64 x9) (.int .i64 y9) (.int .i64 s9) (.bool o9)
   simp [results, Tryz.results22, go_sem, e0, e1, e2, e3, e4, e5, e6, e7]
  ·have AD5 := (((((((AD4.out.setD 0 (.slice A9 N9 c8)).setD 1 (.slice B9 (4 * N9) c9)).setD 2 (.int .i64 (L9 : Int))).setM 0 (.int .i64 k9)).setM 1 (.int .i64 x9)).setM 2 (.int .i64 y9)).setM 3 (.int .i64 s9)).setM 4 (.bool o9)
   rw [← HCC.out, ← HRR.out, ← HMM.out]
   refine ⟨fun h => absurd HC.out h, fun _ => ⟨A9, B9, c8, c9, by rw [HMV.out, ← HN9.out, ← HL9.out]; rfl, AD5.drew.t⟩, AD5.drew.b.bel⟩
 ·have HC := hide hc
  have hE := ResErr.split (hres.1 hc)
  subst hE
  have t1 : (cc != 0) = true := by rw [bne_iff_ne]; exact hc
  clear hc
  obtain ⟨_, r3, l3⟩ := AB3.out.r
  obtain ⟨_, r4, l4⟩ := AB3.out.i
  obtain ⟨_, r5, l5⟩ := AB3.out.rd
  obtain ⟨_, r6, l6⟩ := AB3.out.rm
  obtain ⟨e0, e1, e2, e3⟩ := cells3 r3 l3
  obtain ⟨f0, f1, f2, f3, f4, f5⟩ := cells5 r4 l4
  obtain ⟨g0, g1, g2, g3⟩ := cells3 r5 l5
  obtain ⟨h0, h1, h2, h3, h4, h5⟩ := cells5 r6 l6
  have y1 : gr ≠ w.heap.size + 1 + 1 := by have := AB3.out.lr; omega
  have y2 : gr ≠ w.heap.size + 1 + 1 + 1 := by have := AB3.out.lr; omega
  have y3 : gi ≠ w.heap.size + 1 + 1 := by have := AB3.out.li; omega
  have y4 : gi ≠ w.heap.size + 1 + 1 + 1 := by have := AB3.out.li; omega
  have y5 : gr ≠ gi := AB3.out.ne
  have y6 : w.heap.size + 1 + 1 ≠ w.heap.size + 1 + 1 + 1 := by omega
  clear r3 l3 r4 l4 r5 l5 r6 l6
  go_wp2
  clear e0 e1 e2 e3 f0 f1 f2 f3 f4 f5 g0 g1 g2 g3 h0 h1 h2 h3 h4 h5
  have AB4 := (((((((AB3.out.setR 0 (.slice none 0 0)).setR 1 (.slice none 0 0)).setR 2 (.int .i64 0)).setI 0 (.int .i64 0)).setI 1 (.int .i64 0)).setI 2 (.int .i64 0)).setI 3 (.int .i64 0)).setI 4 (.bool false)
  obtain ⟨_, r5, l5⟩ := AB4.rd
  obtain ⟨_, r6, l6⟩ := AB4.rm
  refine bodyPost_ret (v := .tuple #[nilD, nilM, .int .i64 cc]) ?_ rfl ?_
  ·obtain ⟨e0, e1, e2, e3, e4, e5, e6, e7⟩ := fin8 r5 r6 l5 l6 (by omega) (.slice none 0 0) (.slice none 0 0) (.int .i64 0) (.int .i64 0) (.int .i64 0) (.int .i64 0) (.int .i64 0) (.bool false)
   unfold nilD nilM
   simp [results, Tryz.results22, go_sem, e0, e1, e2, e3, e4, e5, e6, e7]
  ·rw [← HCC.out, ← HRR.out, ← HMM.out]
   exact ⟨fun _ => (show ResErr _ _ from rfl), fun h => absurd h HC.out, below8 AB4.bel _ _ _ _ _ _ _ _⟩
set_option maxRecDepth 100000 in
set_option maxHeartbeats 2000000 in
theorem apply_r1 (d : Pl.Dg) (hd : Pl.Valid d) (A B : Option Addr) (cp cq m : Nat) (x y s : Int) (o : Bool) (w : World) (hm : m = 4 * d.n) (hg : DgAt w A B d) (hin : ¬ inR d.n ⟨1, x, y, s, o⟩) :
 Calls Tryz.prog 22 #[.agg #[.slice A d.n cp, .slice B m cq, .int .i64 d.lp], (Mv.mk 1 x y s o).v] w fun e w' => ResErr 2 e ∧ Below w.heap.size w w' := by
 have hn := hd.wf.few
 have hlp := hd.wf.lp
 have HM := hide hm
 have HG := hide hg
 have hm2 : m ≤ 256 := by omega
 clear hm hg
 have PB0 := hide (boxes4 w (.slice A d.n cp) (.slice B m cq) (.int .i64 (d.lp : Int)) (.int .i64 1) (.int .i64 x) (.int .i64 y) (.int .i64 s) (.bool o))
 unfold W4 at PB0
 obtain ⟨x0, x1, x2, x3, b0, s0⟩ := PB0.out
 have X0 := hide x0
 have X1 := hide x1
 have X2 := hide x2
 have X3 := hide x3
 have B0 := hide b0
 have S0 := hide s0
 clear x0 x1 x2 x3 b0 s0 PB0
 unfold Mv.v
 go_enter Tryz.func22, Tryz.ntmps22
 go_wp2_with fail
 refine (valid_yes d hd A B cp cq m _ HM.out (HG.out.keep B0.out)).mono ?_
 rintro e w1 ⟨rfl, hb1⟩
 have Y0 := hide (X0.out.below hb1)
 have Y1 := hide (X1.out.below hb1)
 have Y2 := hide (X2.out.below hb1)
 have Y3 := hide (X3.out.below hb1)
 have B1 := hide (B0.out.trans (hb1.mono B0.out.size))
 have hsz1 : w.heap.size + 4 ≤ w1.heap.size := by have := hb1.size; have := S0.out; omega
 clear X0 X1 X2 X3 B0 S0 hb1
 obtain ⟨d0, d1, d2, d3⟩ := box3 Y0.out
 obtain ⟨m0, m1, m2, m3, m4, m5⟩ := box5 Y1.out
 go_wp2_with fail
 refine (inRange_1 d.n x y s o w1 (by omega)).mono ?_
 rintro e w2 ⟨rfl, hb2⟩
 rw [Pl.vb_false hin]
 have Z2 := hide (Y2.out.below hb2)
 have Z3 := hide (Y3.out.below hb2)
 have B2 := hide (B1.out.trans (hb2.mono B1.out.size))
 clear d0 d1 d2 d3 m0 m1 m2 m3 m4 m5 Y0 Y1 Y2 Y3 B1 hb2
 obtain ⟨p0, p1, p2, p3⟩ := box3 Z2.out
 obtain ⟨q0, q1, q2, q3, q4, q5⟩ := box5 Z3.out
 go_wp2
 refine bodyPost_ret (v := .tuple #[nilD, nilM, .int .i64 2]) ?_ rfl ?_
 ·obtain ⟨e0, e1, e2, e3, e4, e5, e6, e7⟩ := fin8 (Z2.out) (Z3.out) rfl rfl (by omega) (.slice none 0 0) (.slice none 0 0) (.int .i64 0) (.int .i64 0) (.int .i64 0) (.int .i64 0) (.int .i64 0) (.bool false)
  unfold nilD nilM
  simp [results, Tryz.results22, go_sem, e0, e1, e2, e3, e4, e5, e6, e7]
 ·exact ⟨(show ResErr _ _ from rfl), below8 B2.out _ _ _ _ _ _ _ _⟩
set_option maxRecDepth 100000 in
set_option maxHeartbeats 2000000 in
theorem apply_r2 (d : Pl.Dg) (hd : Pl.Valid d) (A B : Option Addr) (cp cq m : Nat) (x y s : Int) (o : Bool) (w : World) (hm : m = 4 * d.n) (hg : DgAt w A B d) (hin : ¬ inR d.n ⟨2, x, y, s, o⟩) :
 Calls Tryz.prog 22 #[.agg #[.slice A d.n cp, .slice B m cq, .int .i64 d.lp], (Mv.mk 2 x y s o).v] w fun e w' => ResErr 2 e ∧ Below w.heap.size w w' := by
 have hn := hd.wf.few
 have hlp := hd.wf.lp
 have HM := hide hm
 have HG := hide hg
 have hm2 : m ≤ 256 := by omega
 clear hm hg
 have PB0 := hide (boxes4 w (.slice A d.n cp) (.slice B m cq) (.int .i64 (d.lp : Int)) (.int .i64 2) (.int .i64 x) (.int .i64 y) (.int .i64 s) (.bool o))
 unfold W4 at PB0
 obtain ⟨x0, x1, x2, x3, b0, s0⟩ := PB0.out
 have X0 := hide x0
 have X1 := hide x1
 have X2 := hide x2
 have X3 := hide x3
 have B0 := hide b0
 have S0 := hide s0
 clear x0 x1 x2 x3 b0 s0 PB0
 unfold Mv.v
 go_enter Tryz.func22, Tryz.ntmps22
 go_wp2_with fail
 refine (valid_yes d hd A B cp cq m _ HM.out (HG.out.keep B0.out)).mono ?_
 rintro e w1 ⟨rfl, hb1⟩
 have Y0 := hide (X0.out.below hb1)
 have Y1 := hide (X1.out.below hb1)
 have Y2 := hide (X2.out.below hb1)
 have Y3 := hide (X3.out.below hb1)
 have B1 := hide (B0.out.trans (hb1.mono B0.out.size))
 have hsz1 : w.heap.size + 4 ≤ w1.heap.size := by have := hb1.size; have := S0.out; omega
 clear X0 X1 X2 X3 B0 S0 hb1
 obtain ⟨d0, d1, d2, d3⟩ := box3 Y0.out
 obtain ⟨m0, m1, m2, m3, m4, m5⟩ := box5 Y1.out
 go_wp2_with fail
 refine (inRange_2 d.n x y s o w1 (by omega)).mono ?_
 rintro e w2 ⟨rfl, hb2⟩
 rw [Pl.vb_false hin]
 have Z2 := hide (Y2.out.below hb2)
 have Z3 := hide (Y3.out.below hb2)
 have B2 := hide (B1.out.trans (hb2.mono B1.out.size))
 clear d0 d1 d2 d3 m0 m1 m2 m3 m4 m5 Y0 Y1 Y2 Y3 B1 hb2
 obtain ⟨p0, p1, p2, p3⟩ := box3 Z2.out
 obtain ⟨q0, q1, q2, q3, q4, q5⟩ := box5 Z3.out
 go_wp2
 refine bodyPost_ret (v := .tuple #[nilD, nilM, .int .i64 2]) ?_ rfl ?_
 ·obtain ⟨e0, e1, e2, e3, e4, e5, e6, e7⟩ := fin8 (Z2.out) (Z3.out) rfl rfl (by omega) (.slice none 0 0) (.slice none 0 0) (.int .i64 0) (.int .i64 0) (.int .i64 0) (.int .i64 0) (.int .i64 0) (.bool false)
  unfold nilD nilM
  simp [results, Tryz.results22, go_sem, e0, e1, e2, e3, e4, e5, e6, e7]
 ·exact ⟨(show ResErr _ _ from rfl), below8 B2.out _ _ _ _ _ _ _ _⟩
set_option maxRecDepth 100000 in
set_option maxHeartbeats 2000000 in
theorem apply_r3 (d : Pl.Dg) (hd : Pl.Valid d) (A B : Option Addr) (cp cq m : Nat) (x y s : Int) (o : Bool) (w : World) (hm : m = 4 * d.n) (hg : DgAt w A B d) (hin : ¬ inR d.n ⟨3, x, y, s, o⟩) :
 Calls Tryz.prog 22 #[.agg #[.slice A d.n cp, .slice B m cq, .int .i64 d.lp], (Mv.mk 3 x y s o).v] w fun e w' => ResErr 2 e ∧ Below w.heap.size w w' := by
 have hn := hd.wf.few
 have hlp := hd.wf.lp
 have HM := hide hm
 have HG := hide hg
 have hm2 : m ≤ 256 := by omega
 clear hm hg
 have PB0 := hide (boxes4 w (.slice A d.n cp) (.slice B m cq) (.int .i64 (d.lp : Int)) (.int .i64 3) (.int .i64 x) (.int .i64 y) (.int .i64 s) (.bool o))
 unfold W4 at PB0
 obtain ⟨x0, x1, x2, x3, b0, s0⟩ := PB0.out
 have X0 := hide x0
 have X1 := hide x1
 have X2 := hide x2
 have X3 := hide x3
 have B0 := hide b0
 have S0 := hide s0
 clear x0 x1 x2 x3 b0 s0 PB0
 unfold Mv.v
 go_enter Tryz.func22, Tryz.ntmps22
 go_wp2_with fail
 refine (valid_yes d hd A B cp cq m _ HM.out (HG.out.keep B0.out)).mono ?_
 rintro e w1 ⟨rfl, hb1⟩
 have Y0 := hide (X0.out.below hb1)
 have Y1 := hide (X1.out.below hb1)
 have Y2 := hide (X2.out.below hb1)
 have Y3 := hide (X3.out.below hb1)
 have B1 := hide (B0.out.trans (hb1.mono B0.out.size))
 have hsz1 : w.heap.size + 4 ≤ w1.heap.size := by have := hb1.size; have := S0.out; omega
 clear X0 X1 X2 X3 B0 S0 hb1
 obtain ⟨d0, d1, d2, d3⟩ := box3 Y0.out
 obtain ⟨m0, m1, m2, m3, m4, m5⟩ := box5 Y1.out
 go_wp2_with fail
 refine (inRange_3 d.n x y s o w1 (by omega)).mono ?_
 rintro e w2 ⟨rfl, hb2⟩
 rw [Pl.vb_false hin]
 have Z2 := hide (Y2.out.below hb2)
 have Z3 := hide (Y3.out.below hb2)
 have B2 := hide (B1.out.trans (hb2.mono B1.out.size))
 clear d0 d1 d2 d3 m0 m1 m2 m3 m4 m5 Y0 Y1 Y2 Y3 B1 hb2
 obtain ⟨p0, p1, p2, p3⟩ := box3 Z2.out
 obtain ⟨q0, q1, q2, q3, q4, q5⟩ := box5 Z3.out
 go_wp2
 refine bodyPost_ret (v := .tuple #[nilD, nilM, .int .i64 2]) ?_ rfl ?_
 ·obtain ⟨e0, e1, e2, e3, e4, e5, e6, e7⟩ := fin8 (Z2.out) (Z3.out) rfl rfl (by omega) (.slice none 0 0) (.slice none 0 0) (.int .i64 0) (.int .i64 0) (.int .i64 0) (.int .i64 0) (.int .i64 0) (.bool false)
  unfold nilD nilM
  simp [results, Tryz.results22, go_sem, e0, e1, e2, e3, e4, e5, e6, e7]
 ·exact ⟨(show ResErr _ _ from rfl), below8 B2.out _ _ _ _ _ _ _ _⟩
set_option maxRecDepth 100000 in
set_option maxHeartbeats 2000000 in
theorem apply_r4 (d : Pl.Dg) (hd : Pl.Valid d) (A B : Option Addr) (cp cq m : Nat) (x y s : Int) (o : Bool) (w : World) (hm : m = 4 * d.n) (hg : DgAt w A B d) (hin : ¬ inR d.n ⟨4, x, y, s, o⟩) :
 Calls Tryz.prog 22 #[.agg #[.slice A d.n cp, .slice B m cq, .int .i64 d.lp], (Mv.mk 4 x y s o).v] w fun e w' => ResErr 2 e ∧ Below w.heap.size w w' := by
 have hn := hd.wf.few
 have hlp := hd.wf.lp
 have HM := hide hm
 have HG := hide hg
 have hm2 : m ≤ 256 := by omega
 clear hm hg
 have PB0 := hide (boxes4 w (.slice A d.n cp) (.slice B m cq) (.int .i64 (d.lp : Int)) (.int .i64 4) (.int .i64 x) (.int .i64 y) (.int .i64 s) (.bool o))
 unfold W4 at PB0
 obtain ⟨x0, x1, x2, x3, b0, s0⟩ := PB0.out
 have X0 := hide x0
 have X1 := hide x1
 have X2 := hide x2
 have X3 := hide x3
 have B0 := hide b0
 have S0 := hide s0
 clear x0 x1 x2 x3 b0 s0 PB0
 unfold Mv.v
 go_enter Tryz.func22, Tryz.ntmps22
 go_wp2_with fail
 refine (valid_yes d hd A B cp cq m _ HM.out (HG.out.keep B0.out)).mono ?_
 rintro e w1 ⟨rfl, hb1⟩
 have Y0 := hide (X0.out.below hb1)
 have Y1 := hide (X1.out.below hb1)
 have Y2 := hide (X2.out.below hb1)
 have Y3 := hide (X3.out.below hb1)
 have B1 := hide (B0.out.trans (hb1.mono B0.out.size))
 have hsz1 : w.heap.size + 4 ≤ w1.heap.size := by have := hb1.size; have := S0.out; omega
 clear X0 X1 X2 X3 B0 S0 hb1
 obtain ⟨d0, d1, d2, d3⟩ := box3 Y0.out
 obtain ⟨m0, m1, m2, m3, m4, m5⟩ := box5 Y1.out
 go_wp2_with fail
 refine (inRange_4 d.n x y s o w1 (by omega)).mono ?_
 rintro e w2 ⟨rfl, hb2⟩
 rw [Pl.vb_false hin]
 have Z2 := hide (Y2.out.below hb2)
 have Z3 := hide (Y3.out.below hb2)
 have B2 := hide (B1.out.trans (hb2.mono B1.out.size))
 clear d0 d1 d2 d3 m0 m1 m2 m3 m4 m5 Y0 Y1 Y2 Y3 B1 hb2
 obtain ⟨p0, p1, p2, p3⟩ := box3 Z2.out
 obtain ⟨q0, q1, q2, q3, q4, q5⟩ := box5 Z3.out
 go_wp2
 refine bodyPost_ret (v := .tuple #[nilD, nilM, .int .i64 2]) ?_ rfl ?_
 ·obtain ⟨e0, e1, e2, e3, e4, e5, e6, e7⟩ := fin8 (Z2.out) (Z3.out) rfl rfl (by omega) (.slice none 0 0) (.slice none 0 0) (.int .i64 0) (.int .i64 0) (.int .i64 0) (.int .i64 0) (.int .i64 0) (.bool false)
  unfold nilD nilM
  simp [results, Tryz.results22, go_sem, e0, e1, e2, e3, e4, e5, e6, e7]
 ·exact ⟨(show ResErr _ _ from rfl), below8 B2.out _ _ _ _ _ _ _ _⟩
set_option maxRecDepth 100000 in
set_option maxHeartbeats 2000000 in
theorem apply_r5 (d : Pl.Dg) (hd : Pl.Valid d) (A B : Option Addr) (cp cq m : Nat) (x y s : Int) (o : Bool) (w : World) (hm : m = 4 * d.n) (hg : DgAt w A B d) (hin : ¬ inR d.n ⟨5, x, y, s, o⟩) :
 Calls Tryz.prog 22 #[.agg #[.slice A d.n cp, .slice B m cq, .int .i64 d.lp], (Mv.mk 5 x y s o).v] w fun e w' => ResErr 2 e ∧ Below w.heap.size w w' := by
 have hn := hd.wf.few
 have hlp := hd.wf.lp
 have HM := hide hm
 have HG := hide hg
 have hm2 : m ≤ 256 := by omega
 clear hm hg
 have PB0 := hide (boxes4 w (.slice A d.n cp) (.slice B m cq) (.int .i64 (d.lp : Int)) (.int .i64 5) (.int .i64 x) (.int .i64 y) (.int .i64 s) (.bool o))
 unfold W4 at PB0
 obtain ⟨x0, x1, x2, x3, b0, s0⟩ := PB0.out
 have X0 := hide x0
 have X1 := hide x1
 have X2 := hide x2
 have X3 := hide x3
 have B0 := hide b0
 have S0 := hide s0
 clear x0 x1 x2 x3 b0 s0 PB0
 unfold Mv.v
 go_enter Tryz.func22, Tryz.ntmps22
 go_wp2_with fail
 refine (valid_yes d hd A B cp cq m _ HM.out (HG.out.keep B0.out)).mono ?_
 rintro e w1 ⟨rfl, hb1⟩
 have Y0 := hide (X0.out.below hb1)
 have Y1 := hide (X1.out.below hb1)
 have Y2 := hide (X2.out.below hb1)
 have Y3 := hide (X3.out.below hb1)
 have B1 := hide (B0.out.trans (hb1.mono B0.out.size))
 have hsz1 : w.heap.size + 4 ≤ w1.heap.size := by have := hb1.size; have := S0.out; omega
 clear X0 X1 X2 X3 B0 S0 hb1
 obtain ⟨d0, d1, d2, d3⟩ := box3 Y0.out
 obtain ⟨m0, m1, m2, m3, m4, m5⟩ := box5 Y1.out
 go_wp2_with fail
 refine (inRange_5 d.n x y s o w1 (by omega)).mono ?_
 rintro e w2 ⟨rfl, hb2⟩
 rw [Pl.vb_false hin]
 have Z2 := hide (Y2.out.below hb2)
 have Z3 := hide (Y3.out.below hb2)
 have B2 := hide (B1.out.trans (hb2.mono B1.out.size))
 clear d0 d1 d2 d3 m0 m1 m2 m3 m4 m5 Y0 Y1 Y2 Y3 B1 hb2
 obtain ⟨p0, p1, p2, p3⟩ := box3 Z2.out
 obtain ⟨q0, q1, q2, q3, q4, q5⟩ := box5 Z3.out
 go_wp2
 refine bodyPost_ret (v := .tuple #[nilD, nilM, .int .i64 2]) ?_ rfl ?_
 ·obtain ⟨e0, e1, e2, e3, e4, e5, e6, e7⟩ := fin8 (Z2.out) (Z3.out) rfl rfl (by omega) (.slice none 0 0) (.slice none 0 0) (.int .i64 0) (.int .i64 0) (.int .i64 0) (.int .i64 0) (.int .i64 0) (.bool false)
  unfold nilD nilM
  simp [results, Tryz.results22, go_sem, e0, e1, e2, e3, e4, e5, e6, e7]
 ·exact ⟨(show ResErr _ _ from rfl), below8 B2.out _ _ _ _ _ _ _ _⟩
set_option maxRecDepth 100000 in
set_option maxHeartbeats 2000000 in
theorem apply_k (d : Pl.Dg) (hd : Pl.Valid d) (A B : Option Addr) (cp cq m : Nat) (k x y s : Int) (o : Bool) (w : World) (hm : m = 4 * d.n) (hg : DgAt w A B d) (hk : k < 1 ∨ 5 < k) :
 Calls Tryz.prog 22 #[.agg #[.slice A d.n cp, .slice B m cq, .int .i64 d.lp], (Mv.mk k x y s o).v] w fun e w' => ResErr 11 e ∧ Below w.heap.size w w' := by
 have hn := hd.wf.few
 have hlp := hd.wf.lp
 have HM := hide hm
 have HG := hide hg
 have hm2 : m ≤ 256 := by omega
 clear hm hg
 have PB0 := hide (boxes4 w (.slice A d.n cp) (.slice B m cq) (.int .i64 (d.lp : Int)) (.int .i64 k) (.int .i64 x) (.int .i64 y) (.int .i64 s) (.bool o))
 unfold W4 at PB0
 obtain ⟨x0, x1, x2, x3, b0, s0⟩ := PB0.out
 have X0 := hide x0
 have X1 := hide x1
 have X2 := hide x2
 have X3 := hide x3
 have B0 := hide b0
 have S0 := hide s0
 clear x0 x1 x2 x3 b0 s0 PB0
 unfold Mv.v
 go_enter Tryz.func22, Tryz.ntmps22
 go_wp2_with fail
 refine (valid_yes d hd A B cp cq m _ HM.out (HG.out.keep B0.out)).mono ?_
 rintro e w1 ⟨rfl, hb1⟩
 have Y0 := hide (X0.out.below hb1)
 have Y1 := hide (X1.out.below hb1)
 have Y2 := hide (X2.out.below hb1)
 have Y3 := hide (X3.out.below hb1)
 have B1 := hide (B0.out.trans (hb1.mono B0.out.size))
 have hsz1 : w.heap.size + 4 ≤ w1.heap.size := by have := hb1.size; have := S0.out; omega
 clear X0 X1 X2 X3 B0 S0 hb1
 obtain ⟨d0, d1, d2, d3⟩ := box3 Y0.out
 obtain ⟨m0, m1, m2, m3, m4, m5⟩ := box5 Y1.out
 obtain ⟨p0, p1, p2, p3⟩ := box3 Y2.out
 obtain ⟨q0, q1, q2, q3, q4, q5⟩ := box5 Y3.out
 by_cases h1 : k < 1
 ·go_wp2
  refine bodyPost_ret (v := .tuple #[nilD, nilM, .int .i64 11]) ?_ rfl ?_
  ·obtain ⟨e0, e1, e2, e3, e4, e5, e6, e7⟩ := fin8 (Y2.out) (Y3.out) rfl rfl (by omega) (.slice none 0 0) (.slice none 0 0) (.int .i64 0) (.int .i64 0) (.int .i64 0) (.int .i64 0) (.int .i64 0) (.bool false)
   unfold nilD nilM
   simp [results, Tryz.results22, go_sem, e0, e1, e2, e3, e4, e5, e6, e7]
  ·exact ⟨(show ResErr _ _ from rfl), below8 B1.out _ _ _ _ _ _ _ _⟩
 ·have h2 : 5 < k := by omega
  go_wp2
  refine bodyPost_ret (v := .tuple #[nilD, nilM, .int .i64 11]) ?_ rfl ?_
  ·obtain ⟨e0, e1, e2, e3, e4, e5, e6, e7⟩ := fin8 (Y2.out) (Y3.out) rfl rfl (by omega) (.slice none 0 0) (.slice none 0 0) (.int .i64 0) (.int .i64 0) (.int .i64 0) (.int .i64 0) (.int .i64 0) (.bool false)
   unfold nilD nilM
   simp [results, Tryz.results22, go_sem, e0, e1, e2, e3, e4, e5, e6, e7]
  ·exact ⟨(show ResErr _ _ from rfl), below8 B1.out _ _ _ _ _ _ _ _⟩
noncomputable def apC (d : Pl.Dg) (m : Mv) : Int :=
 if m.kind < 1 ∨ 5 < m.kind then 11 else if Pl.vb (inR d.n m) = false then 2 else if m.kind = 1 then curlableC d m.x else if m.kind = 2 then uncC d m.x.toNat else if m.kind = 3 then pkQ d m.x m.y m.sign else if m.kind = 4 then unpC d m.x.toNat m.y.toNat else sldC d m.x.toNat
def apD (d : Pl.Dg) (m : Mv) : Pl.Dg :=
 if m.kind = 1 then crl d m.x m.sign m.over else if m.kind = 2 then unD d m.x.toNat else if m.kind = 3 then pkD d m.x m.y m.sign m.over else if m.kind = 4 then unpD d m.x.toNat m.y.toNat else sldD d m.x.toNat
def apI (d : Pl.Dg) (m : Mv) : Mv :=
 if m.kind = 1 then ⟨2, d.n, 0, 0, false⟩ else if m.kind = 2 then unI d m.x.toNat else if m.kind = 3 then ⟨4, d.n, d.n + 1, 0, false⟩ else if m.kind = 4 then unpI d m.x.toNat m.y.toNat else sldI d m.x.toNat
theorem resC_err {c : Int} {r : Pl.Dg} {mv : Mv} {w : World} {e : Ending} {w' : World} (hc : c ≠ 0) (h : ResErr c e ∧ Below w.heap.size w w') : ResC c r mv w e w' := ⟨fun _ => h.1, fun h0 => absurd h0 hc, h.2⟩
theorem apply_any (d : Pl.Dg) (hd : Pl.Valid d) (A B : Option Addr) (cp cq m : Nat) (mv : Mv) (w : World) (hm : m = 4 * d.n) (hg : DgAt w A B d) :
 Calls Tryz.prog 22 #[.agg #[.slice A d.n cp, .slice B m cq, .int .i64 d.lp], mv.v] w (ResC (apC d mv) (apD d mv) (apI d mv) w) := by
 obtain ⟨k, x, y, s, o⟩ := mv
 by_cases hk : k < 1 ∨ 5 < k
 ·have e : apC d ⟨k, x, y, s, o⟩ = 11 := by unfold apC; rw [if_pos hk]
  rw [e]
  exact (apply_k d hd A B cp cq m k x y s o w hm hg hk).mono fun e w' h => resC_err (by decide) h
 ·by_cases hin : inR d.n ⟨k, x, y, s, o⟩
  ·have hv : ¬ (Pl.vb (inR d.n ⟨k, x, y, s, o⟩) = false) := by rw [Pl.vb_true hin]; decide
   have e0 : apC d ⟨k, x, y, s, o⟩ = if k = 1 then curlableC d x else if k = 2 then uncC d x.toNat else if k = 3 then pkQ d x y s else if k = 4 then unpC d x.toNat y.toNat else sldC d x.toNat := by unfold apC; rw [if_neg hk, if_neg hv]
   have hk5 : k = 1 ∨ k = 2 ∨ k = 3 ∨ k = 4 ∨ k = 5 := by omega
   rcases hk5 with rfl | rfl | rfl | rfl | rfl
   ·rw [e0]
    exact apply_1 d hd A B cp cq m x y s o w hm hg hin
   ·obtain ⟨c, rfl⟩ := Int.eq_ofNat_of_zero_le (show 0 ≤ x by have := hin; unfold inR at this; simp at this; omega)
    rw [e0]
    exact apply_2 d hd A B cp cq m c y s o w hm hg hin
   ·rw [e0]
    exact apply_3 d hd A B cp cq m x y s o w hm hg hin
   ·obtain ⟨c, rfl⟩ := Int.eq_ofNat_of_zero_le (show 0 ≤ x by have := hin; unfold inR at this; simp at this; omega)
    obtain ⟨c', rfl⟩ := Int.eq_ofNat_of_zero_le (show 0 ≤ y by have := hin; unfold inR at this; simp at this; omega)
    rw [e0]
    exact apply_4 d hd A B cp cq m c c' s o w hm hg hin
   ·obtain ⟨c, rfl⟩ := Int.eq_ofNat_of_zero_le (show 0 ≤ x by have := hin; unfold inR at this; simp at this; omega)
    rw [e0]
    exact apply_5 d hd A B cp cq m c y s o w hm hg hin
  ·have e : apC d ⟨k, x, y, s, o⟩ = 2 := by unfold apC; rw [if_neg hk, if_pos (Pl.vb_false hin)]
   rw [e]
   have hk5 : k = 1 ∨ k = 2 ∨ k = 3 ∨ k = 4 ∨ k = 5 := by omega
   rcases hk5 with rfl | rfl | rfl | rfl | rfl
   ·exact (apply_r1 d hd A B cp cq m x y s o w hm hg hin).mono fun e w' h => resC_err (by decide) h
   ·exact (apply_r2 d hd A B cp cq m x y s o w hm hg hin).mono fun e w' h => resC_err (by decide) h
   ·exact (apply_r3 d hd A B cp cq m x y s o w hm hg hin).mono fun e w' h => resC_err (by decide) h
   ·exact (apply_r4 d hd A B cp cq m x y s o w hm hg hin).mono fun e w' h => resC_err (by decide) h
   ·exact (apply_r5 d hd A B cp cq m x y s o w hm hg hin).mono fun e w' h => resC_err (by decide) h
end Go.Proofs.YtlffopdoeobgaaaGreatDoor
end
section
namespace Go.Proofs.YtlffopdoeobgaaaGreatDoor.Pl
def sm (f : Nat → Int) : Nat → Int
 | 0 => 0
 | k + 1 => sm f k + f k
theorem sum_append' (l r : List Int) : (l ++ r).sum = l.sum + r.sum := by simp
theorem sum_one (x : Int) : [x].sum = x := by simp
theorem left_sum_one (f : Nat → Int) (c : Nat) : ∀ k, ((left k [c]).map f).sum = sm f k - if c < k then f c else 0
 | 0 => by simp [left_zero, sm]
 | k + 1 => by
   rw [left_succ, List.map_append, sum_append', left_sum_one f c k]
   show _ = sm f k + f k - _
   by_cases h : k = c
   ·subst h; simp; try omega
   ·have : ([c].contains k) = false := by simp [h]
    rw [this]
    simp only [Bool.false_eq_true, if_false, List.map_cons, List.map_nil, sum_one]
    by_cases h2 : c < k
    ·rw [if_pos h2, if_pos (by omega)]; omega
    ·rw [if_neg h2, if_neg (by omega)]; omega
theorem left_sum_two (f : Nat → Int) {x y : Nat} (hxy : x < y) : ∀ k, ((left k [x, y]).map f).sum = sm f k - (if x < k then f x else 0) - if y < k then f y else 0
 | 0 => by simp [left_zero, sm]
 | k + 1 => by
   rw [left_succ, List.map_append, sum_append', left_sum_two f hxy k]
   show _ = sm f k + f k - _ - _
   by_cases h : k = x
   ·subst h
    have : ([k, y].contains k) = true := by simp
    rw [this]
    simp only [if_true, List.map_nil, List.sum_nil]
    rw [if_neg (Nat.lt_irrefl _), if_pos (Nat.lt_succ_self _), if_neg (by omega), if_neg (by omega)]
    omega
   ·by_cases h3 : k = y
    ·subst h3
     have : ([x, k].contains k) = true := by simp
     rw [this]
     simp only [if_true, List.map_nil, List.sum_nil]
     rw [if_pos hxy, if_neg (Nat.lt_irrefl k), if_pos (show x < k + 1 by omega), if_pos (Nat.lt_succ_self k)]
     omega
    ·have : ([x, y].contains k) = false := by simp [h, h3]
     rw [this]
     simp only [Bool.false_eq_true, if_false, List.map_cons, List.map_nil, sum_one]
     by_cases h2 : x < k <;> by_cases h4 : y < k
     ·rw [if_pos h2, if_pos (show x < k + 1 by omega), if_pos h4, if_pos (show y < k + 1 by omega)]; omega
     ·rw [if_pos h2, if_pos (show x < k + 1 by omega), if_neg h4, if_neg (show ¬ y < k + 1 by omega)]; omega
     ·omega
     ·rw [if_neg h2, if_neg (show ¬ x < k + 1 by omega), if_neg h4, if_neg (show ¬ y < k + 1 by omega)]; omega
theorem sm_list (l : List Int) : sm (fun c => l.getD c 0) l.length = l.sum := by
 have key : ∀ (l : List Int) (k : Nat), k ≤ l.length → sm (fun c => l.getD c 0) k = (l.take k).sum := by
  intro l k
  induction k with
  | zero => intro _; rfl
  | succ k ih =>
    intro h
    show sm _ k + l.getD k 0 = _
    rw [ih (by omega), List.take_add_one, List.getElem?_eq_getElem (by omega), sum_append', List.getD_eq_getElem?_getD, List.getElem?_eq_getElem (by omega)]
    simp
 rw [key l l.length (Nat.le_refl _), List.take_length]
theorem shrS_one (sg : List Int) {c : Nat} (h : c < sg.length) : (shrS [c] sg).sum = sg.sum - sg.getD c 0 := by
 unfold shrS
 rw [left_sum_one, if_pos h, sm_list]
theorem shrS_two (sg : List Int) {x y : Nat} (hxy : x < y) (h : y < sg.length) : (shrS [x, y] sg).sum = sg.sum - sg.getD x 0 - sg.getD y 0 := by
 unfold shrS
 rw [left_sum_two _ hxy, if_pos (by omega), if_pos h, sm_list]
theorem lens_signs {d : Dg} (hd : Wf d) {h : Nat} (hh : h < 4 * d.n) (hg : nx d (nx d h) = h) (hp : h % 2 = d.m h % 2) : d.s (h / 4) + d.s (nx d h / 4) = 0 := by
 have hm := hd.lt h hh
 have w1 := hd.way h hh
 have hgl : nx d h < 4 * d.n := tn_lt hm
 have w2 := hd.way (nx d h) hgl
 have s1 := hd.sign (h / 4) (by omega)
 have s2 := hd.sign (d.m h / 4) (by omega)
 have e1 : d.m (nx d h) / 4 = h / 4 := by
  have := congrArg (· / 4) hg
  simp only [nx, tn_div] at this
  exact this
 have e2 : d.m (nx d h) % 4 = (h % 4 + 1) % 4 := by
  have := congrArg (· % 4) hg
  unfold nx at this
  simp only [tn_mod] at this
  rw [← this]
  unfold nx
  omega
 have e3 : nx d h / 4 = d.m h / 4 := by unfold nx; rw [tn_div]
 have e4 : nx d h % 4 = (d.m h % 4 + 3) % 4 := by unfold nx; rw [tn_mod]
 rw [e3]
 unfold out at w1 w2
 rw [e1, e2, e3, e4] at w2
 generalize d.s (h / 4) = s at *
 generalize d.s (d.m h / 4) = t at *
 have ha : h % 4 = 0 ∨ h % 4 = 1 ∨ h % 4 = 2 ∨ h % 4 = 3 := by omega
 have hb : d.m h % 4 = 0 ∨ d.m h % 4 = 1 ∨ d.m h % 4 = 2 ∨ d.m h % 4 = 3 := by omega
 rcases ha with a | a | a | a <;> rcases hb with b | b | b | b <;> (first | (exfalso; omega) | skip) <;> rw [a, b] at w1 w2 <;> rcases s1 with rfl | rfl <;> rcases s2 with rfl | rfl <;> simp at w1 w2 ⊢
end Go.Proofs.YtlffopdoeobgaaaGreatDoor.Pl
end
section
namespace Go.Proofs.YtlffopdoeobgaaaGreatDoor
open Go Go.RowKit
def byK (m : Mv) (s : Int) : Int := if m.kind = 1 then m.sign else if m.kind = 2 then -s else 0
def moreK (m : Mv) : Int := if m.kind = 1 then 1 else if m.kind = 2 then -1 else if m.kind = 3 then 2 else if m.kind = 4 then -2 else 0
def Sml (l : List Int) : Prop := ∀ z, z ∈ l → -1 ≤ z ∧ z ≤ 1
theorem wf_sml {d : Pl.Dg} (hd : Pl.Wf d) : Sml d.sg := fun z hz => by
 obtain ⟨k, hk, rfl⟩ := List.getElem_of_mem hz
 have := hd.sign k hk
 unfold Pl.Dg.s at this
 rw [List.getD_eq_getElem?_getD, List.getElem?_eq_getElem hk] at this
 simp at this
 omega
theorem sml_app {l r : List Int} (h : Sml l) (h' : Sml r) : Sml (l ++ r) := fun z hz => by
 rcases List.mem_append.1 hz with h1 | h1
 ·exact h z h1
 ·exact h' z h1
theorem shr_sml {l : List Int} (h : Sml l) (gs : List Nat) : Sml (Pl.shrS gs l) := fun z hz => by
 unfold Pl.shrS at hz
 obtain ⟨c, _, rfl⟩ := List.mem_map.1 hz
 rw [List.getD_eq_getElem?_getD]
 cases hc : l[c]? with
 | none => simp
 | some v => exact h v (List.mem_of_getElem? hc)
theorem sgn2_sml (a b : Nat) : -1 ≤ sgn2 a b ∧ sgn2 a b ≤ 1 := by unfold sgn2; split <;> omega
theorem poke_signs (d : Pl.Dg) (x y : Int) (ov : Bool) : sgn2 (un0 d x y ov) (ov0 d x y ov) + sgn2 (un1 d x y ov) (ov1 d x y ov) = 0 := by
 unfold sgn2 un0 ov0 un1 ov1 lnS th0 th1 plc
 cases ov <;> cases fwd d y <;> cases fwd d x <;> decide
theorem signs_law {d : Pl.Dg} (hd : Pl.Valid d) (m : Mv) (h : apC d m = 0) :
 (apD d m).sg.sum = d.sg.sum + byK m (apI d m).sign ∧ ((apD d m).sg.length : Int) = d.sg.length + moreK m ∧ Sml (apD d m).sg := by
 obtain ⟨k, x, y, s, o⟩ := m
 have hs := wf_sml hd.wf
 by_cases hk : k < 1 ∨ 5 < k
 ·unfold apC at h; rw [if_pos hk] at h; exact absurd h (by decide)
 by_cases hin : inR d.n ⟨k, x, y, s, o⟩
 ·have hv : ¬ (Pl.vb (inR d.n ⟨k, x, y, s, o⟩) = false) := by rw [Pl.vb_true hin]; decide
  have e0 : apC d ⟨k, x, y, s, o⟩ = if k = 1 then curlableC d x else if k = 2 then uncC d x.toNat else if k = 3 then pkQ d x y s else if k = 4 then unpC d x.toNat y.toNat else sldC d x.toNat := by unfold apC; rw [if_neg hk, if_neg hv]
  rw [e0] at h
  have hk5 : k = 1 ∨ k = 2 ∨ k = 3 ∨ k = 4 ∨ k = 5 := by omega
  rcases hk5 with rfl | rfl | rfl | rfl | rfl
  ·have hsg : s = 1 ∨ s = -1 := by have := hin; unfold inR at this; simp at this; omega
   refine ⟨?_, ?_, ?_⟩
   ·show (d.sg ++ [s]).sum = d.sg.sum + s
    simp
   ·show ((d.sg ++ [s]).length : Int) = d.sg.length + 1
    simp
   ·show Sml (d.sg ++ [s])
    exact sml_app hs (fun z hz => by simp at hz; subst hz; omega)
  ·obtain ⟨c, rfl⟩ := Int.eq_ofNat_of_zero_le (show 0 ≤ x by have := hin; unfold inR at this; simp at this; omega)
   have hc : c < d.sg.length := by have := hin; unfold inR at this; simp [Pl.Dg.n] at this; omega
   refine ⟨?_, ?_, ?_⟩
   ·show (Pl.shrS [c] d.sg).sum = d.sg.sum + -(d.s c)
    rw [Pl.shrS_one d.sg hc]
    show _ - d.sg.getD c 0 = _ + -(d.sg.getD c 0)
    omega
   ·show ((Pl.shrS [c] d.sg).length : Int) = d.sg.length + -1
    have := Pl.left_one hc
    rw [Pl.shrS_len]
    omega
   ·show Sml (Pl.shrS [c] d.sg)
    exact shr_sml hs _
  ·refine ⟨?_, ?_, ?_⟩
   ·show (d.sg ++ [_, _]).sum = d.sg.sum + 0
    have := poke_signs d x y o
    simp
    omega
   ·show ((d.sg ++ [_, _]).length : Int) = d.sg.length + 2
    simp
   ·show Sml (d.sg ++ [_, _])
    refine sml_app hs (fun z hz => ?_)
    simp at hz
    rcases hz with rfl | rfl <;> exact sgn2_sml _ _
  ·obtain ⟨a, rfl⟩ := Int.eq_ofNat_of_zero_le (show 0 ≤ x by have := hin; unfold inR at this; simp at this; omega)
   obtain ⟨b, rfl⟩ := Int.eq_ofNat_of_zero_le (show 0 ≤ y by have := hin; unfold inR at this; simp at this; omega)
   have hab : a < b ∧ b < d.n := by have := hin; unfold inR at this; simp at this; omega
   have h' : unpC d a b = 0 := h
   have eD : apD d ⟨4, (a : Int), (b : Int), s, o⟩ = unpD d a b := rfl
   cases hL : lensI d a b with
   | none => unfold unpC at h'; rw [hL] at h'; exact absurd (show (6 : Int) = 0 from h') (by decide)
   | some i =>
     have eS : (unpD d a b).sg = Pl.shrS [a, b] d.sg := by unfold unpD; rw [hL]; rfl
     obtain ⟨h1, h2, h3⟩ := lens_is hL
     have hi := lens_lt hL
     have hl : lnH a b i < 4 * d.n := by unfold lnH; split <;> omega
     have sg := Pl.lens_signs hd.wf hl h2 h3
     rw [h1] at sg
     have sab : d.s a + d.s b = 0 := by
      unfold lnH lnO at sg
      by_cases h4 : i < 4
      ·rw [if_pos h4, if_pos h4, show (4 * a + i) / 4 = a by omega] at sg
       exact sg
      ·rw [if_neg h4, if_neg h4, show (4 * b + i - 4) / 4 = b by omega] at sg
       omega
     have hb : b < d.sg.length := hab.2
     rw [eD, eS]
     refine ⟨?_, ?_, ?_⟩
     ·show (Pl.shrS [a, b] d.sg).sum = d.sg.sum + 0
      rw [Pl.shrS_two d.sg hab.1 hb]
      unfold Pl.Dg.s at sab
      omega
     ·show ((Pl.shrS [a, b] d.sg).length : Int) = d.sg.length + -2
      have := Pl.left_two hab.1 hb
      rw [Pl.shrS_len]
      omega
     ·exact shr_sml hs _
  ·refine ⟨?_, ?_, ?_⟩
   ·show d.sg.sum = d.sg.sum + 0
    omega
   ·show (d.sg.length : Int) = d.sg.length + 0
    omega
   ·exact hs
 ·unfold apC at h
  rw [if_neg hk, if_pos (Pl.vb_false hin)] at h
  exact absurd h (by decide)
end Go.Proofs.YtlffopdoeobgaaaGreatDoor
end
section
namespace Go.Proofs.YtlffopdoeobgaaaGreatDoor
open Go Go.RowKit
theorem getD_set2 (l : List Nat) (a b k z : Nat) (ha : a < l.length) : (l.set a b).getD k z = if k = a then b else l.getD k z := by
 rw [List.getD_eq_getElem?_getD, List.getElem?_set, List.getD_eq_getElem?_getD]
 by_cases h : a = k
 ·subst h; simp [ha]
 ·rw [if_neg h, if_neg (Ne.symm h)]
theorem jn_m (l : List Nat) (a b k z : Nat) (ha : a < l.length) (hb : b < l.length) : (jn l a b).getD k z = if k = b then a else if k = a then b else l.getD k z := by
 unfold jn
 rw [getD_set2 _ _ _ _ _ (by simpa using hb), getD_set2 _ _ _ _ _ ha]
theorem app_m {l : List Nat} {r : List Nat} {k z : Nat} (h : k < l.length) : (l ++ r).getD k z = l.getD k z := by
 rw [List.getD_eq_getElem?_getD, List.getD_eq_getElem?_getD, List.getElem?_append_left h]
theorem kq (n : Nat) (sg : Int) (ov : Bool) (hs : sg = 1 ∨ sg = -1) : Pl.Kq n (kI0 n sg ov) (kO0 n sg ov) (kI1 n sg ov) (kO1 n sg ov) := by
 unfold Pl.Kq kI0 kO0 kI1 kO1
 rcases hs with rfl | rfl <;> cases ov <;> simp
theorem crl_s {d : Pl.Dg} {x sg : Int} {ov : Bool} {c : Nat} (h : c < d.n) : (crl d x sg ov).s c = d.s c := by
 unfold Pl.Dg.s crl
 simp only
 rw [List.getD_eq_getElem?_getD, List.getElem?_append_left h, ← List.getD_eq_getElem?_getD]
theorem crl_s' (d : Pl.Dg) (x sg : Int) (ov : Bool) : (crl d x sg ov).s d.n = sg := by
 unfold Pl.Dg.s crl Pl.Dg.n
 simp
theorem crl_kd {d : Pl.Dg} (hd : Pl.Wf d) {x sg : Int} {ov : Bool} (hs : sg = 1 ∨ sg = -1) (hn : d.n + 1 ≤ 64) (m1 : (crl d x sg ov).m (kO0 d.n sg ov) = kI1 d.n sg ov) (m2 : (crl d x sg ov).m (kI1 d.n sg ov) = kO0 d.n sg ov) :
 Pl.Kd d (crl d x sg ov) (kI0 d.n sg ov) (kO0 d.n sg ov) (kI1 d.n sg ov) (kO1 d.n sg ov) := by
 have s' := crl_s' d x sg ov
 have w1 : ∀ e, e < 4 → (4 * d.n + e) / 4 = d.n := fun e h => by omega
 have w2 : ∀ e, e < 4 → (4 * d.n + e) % 4 = e := fun e h => by omega
 have o : ∀ e, e < 4 → Pl.out (crl d x sg ov) (4 * d.n + e) = (e == 2 || (e == 1 && sg == 1) || (e == 3 && sg == -1)) := fun e h => by
  unfold Pl.out; rw [w1 e h, w2 e h, s']
 have o0 := o 0 (by omega)
 have o1 := o 1 (by omega)
 have o2 := o 2 (by omega)
 have o3 := o 3 (by omega)
 rw [Nat.add_zero] at o0
 refine ⟨hn, crl_n _ _ _ _, ?_, ?_, fun c hc => crl_s hc, by rw [s']; exact hs, kq d.n sg ov hs, ?_, ?_, ?_, ?_, m1, m2⟩
 ·unfold crl
  have := hd.len
  simp only
  split <;> (simp [jn_len, this]; omega)
 ·have := hd.lp
  unfold crl; simp only; split <;> omega
 ·rcases hs with rfl | rfl <;> cases ov <;> simp [kI0, o0, o1, o2, o3]
 ·rcases hs with rfl | rfl <;> cases ov <;> simp [kI1, o0, o1, o2, o3]
 ·rcases hs with rfl | rfl <;> cases ov <;> simp [kO0, o0, o1, o2, o3]
 ·rcases hs with rfl | rfl <;> cases ov <;> simp [kO1, o0, o1, o2, o3]
theorem crl_mloop {d : Pl.Dg} (hd : Pl.Wf d) {x sg : Int} {ov : Bool} (hs : sg = 1 ∨ sg = -1) (hx : x < 0) (k : Nat) : (crl d x sg ov).m k =
 if k = kI0 d.n sg ov then kO1 d.n sg ov else if k = kO1 d.n sg ov then kI0 d.n sg ov else if k = kI1 d.n sg ov then kO0 d.n sg ov else if k = kO0 d.n sg ov then kI1 d.n sg ov else (d.mt ++ List.replicate 4 0).getD k k := by
 obtain ⟨a1, a2, a3, a4, _⟩ := (kq d.n sg ov hs).bd
 have hl := hd.len
 have e : (crl d x sg ov).mt = jn (jn (d.mt ++ List.replicate 4 0) (kO0 d.n sg ov) (kI1 d.n sg ov)) (kO1 d.n sg ov) (kI0 d.n sg ov) := by unfold crl; simp only [if_pos hx]
 unfold Pl.Dg.m
 rw [e, jn_m _ _ _ _ _ (by rw [jn_len]; simp; omega) (by rw [jn_len]; simp; omega), jn_m _ _ _ _ _ (by simp; omega) (by simp; omega)]
theorem crl_loop {d : Pl.Dg} (hd : Pl.Valid d) {x sg : Int} {ov : Bool} (hs : sg = 1 ∨ sg = -1) (hn : d.n + 1 ≤ 64) (hx : x < 0) : Pl.Valid (crl d x sg ov) := by
 obtain ⟨a1, a2, a3, a4, n1, n2, n3, n4, n5, n6⟩ := (kq d.n sg ov hs).bd
 have hm := crl_mloop hd.wf (x := x) (ov := ov) hs hx
 have hl := hd.wf.len
 refine Pl.Kd.loop hd (crl_kd hd.wf hs hn ?_ ?_) (fun h hh => ?_) ?_ ?_
 ·rw [hm, if_neg (Ne.symm n1), if_neg n5, if_neg n4, if_pos rfl]
 ·rw [hm, if_neg (Ne.symm n2), if_neg n6, if_pos rfl]
 ·rw [hm, if_neg (by omega), if_neg (by omega), if_neg (by omega), if_neg (by omega), app_m (by omega)]; rfl
 ·rw [hm, if_neg (Ne.symm n3), if_pos rfl]
 ·rw [hm, if_pos rfl]
theorem crl_edge {d : Pl.Dg} (hd : Pl.Valid d) {x : Nat} {sg : Int} {ov : Bool} (hs : sg = 1 ∨ sg = -1) (hn : d.n + 1 ≤ 64) (hx : x < 4 * d.n) (ho : Pl.out d x = true) : Pl.Valid (crl d (x : Int) sg ov) := by
 obtain ⟨a1, a2, a3, a4, n1, n2, n3, n4, n5, n6⟩ := (kq d.n sg ov hs).bd
 have hl := hd.wf.len
 have hy := hd.wf.lt x hx
 have hne := hd.wf.ne x hx
 have e : (crl d (x : Int) sg ov).mt = jn (jn (jn (d.mt ++ List.replicate 4 0) (kO0 d.n sg ov) (kI1 d.n sg ov)) (kO1 d.n sg ov) (d.m x)) x (kI0 d.n sg ov) := by
  unfold crl; simp only [if_neg (show ¬ ((x : Int) < 0) by omega), Int.toNat_natCast]
 have hm : ∀ k, (crl d (x : Int) sg ov).m k = if k = kI0 d.n sg ov then x else if k = x then kI0 d.n sg ov else if k = d.m x then kO1 d.n sg ov else if k = kO1 d.n sg ov then d.m x else if k = kI1 d.n sg ov then kO0 d.n sg ov else if k = kO0 d.n sg ov then kI1 d.n sg ov else (d.mt ++ List.replicate 4 0).getD k k := fun k => by
  show (crl d (x : Int) sg ov).mt.getD k k = _
  rw [e, jn_m _ _ _ _ _ (by rw [jn_len, jn_len]; simp; omega) (by rw [jn_len, jn_len]; simp; omega), jn_m _ _ _ _ _ (by rw [jn_len]; simp; omega) (by rw [jn_len]; simp; omega), jn_m _ _ _ _ _ (by simp; omega) (by simp; omega)]
 refine Pl.Kd.edge hd (crl_kd hd.wf hs hn ?_ ?_) hx ho (fun h hh h1 h2 => ?_) ?_ ?_ ?_ ?_
 ·rw [hm, if_neg (Ne.symm n1), if_neg (by omega), if_neg (by omega), if_neg n5, if_neg n4, if_pos rfl]
 ·rw [hm, if_neg (Ne.symm n2), if_neg (by omega), if_neg (by omega), if_neg n6, if_pos rfl]
 ·rw [hm, if_neg (by omega), if_neg h1, if_neg h2, if_neg (by omega), if_neg (by omega), if_neg (by omega), app_m (by omega)]; rfl
 ·rw [hm, if_neg (Ne.symm n3), if_neg (by omega), if_neg (by omega), if_pos rfl]
 ·rw [hm, if_neg (by omega), if_neg hne, if_pos rfl]
 ·rw [hm, if_neg (by omega), if_pos rfl]
 ·rw [hm, if_pos rfl]
theorem valid_empty {l : Nat} (h : l ≤ 64) : Pl.Valid ⟨[], [], l⟩ :=
 ⟨⟨Nat.zero_le 64, rfl, h, fun c hc => absurd hc (Nat.not_lt_zero _), fun c hc => absurd hc (by show ¬ c < 4 * 0; omega), fun c hc => absurd hc (by show ¬ c < 4 * 0; omega), fun c hc => absurd hc (by show ¬ c < 4 * 0; omega), fun c hc => absurd hc (by show ¬ c < 4 * 0; omega)⟩, fun c hc => absurd hc (Nat.not_lt_zero _)⟩
def two : Pl.Dg := ⟨[-1, 1], [6, 5, 4, 7, 2, 1, 0, 3], 0⟩
theorem two_is : pkD ⟨[], [], 2⟩ (-1) (-1) 0 false = two := by rfl
end Go.Proofs.YtlffopdoeobgaaaGreatDoor
end
section
namespace Go.Proofs.YtlffopdoeobgaaaGreatDoor
open Go Go.RowKit
theorem ints_eq (A B : Option Addr) (n ca cb : Nat) (xs : List Int) (w : World) (hx : IntsAt w A n xs) (hy : IntsAt w B n xs) (hn : n ≤ 100000) :
 Calls Tryz.prog 37 #[.slice A n ca, .slice B n cb] w fun e w' => e = .returned (.bool true) ∧ Below w.heap.size w w' := by
 have HX := hide hx
 have HY := hide hy
 clear hx hy
 go_enter Tryz.func37, Tryz.ntmps37
 go_wp2
 go_loopg [5] n (fun g i wx => ∃ k : Nat, k + g = n ∧ i = .int .i64 k ∧ Below w.heap.size w wx)
 case atStart => exact ⟨0, by omega, rfl, Below.refl _ _⟩
 case round =>
  obtain ⟨k, hkg, rfl, hb⟩ := hrel
  have HB := hide hb
  have HKG := hide hkg
  clear hb
  by_cases hk : k < n
  ·have hki : (k : Int) < (n : Int) := by omega
   obtain ⟨b, o, rfl, c1⟩ := (HX.out.keep HB.out).at_ hk
   obtain ⟨b2, o2, rfl, c2⟩ := (HY.out.keep HB.out).at_ hk
   have k0 : (0 : Int) ≤ (k : Int) := by omega
   obtain ⟨u, hu⟩ : ∃ u, u = xs.getD k 0 := ⟨_, rfl⟩
   rw [← hu] at c1 c2
   clear hu hkg
   go_upto_region 6 with fail
   go_quiet (fail)
   go_wp2
   go_roundg (gk - 1)
   case measure => have := HKG.out; omega
   case rel => exact ⟨k + 1, by have := HKG.out; omega, by go_num, below_drewN HB.out _⟩
  ·have hki : ¬ ((k : Int) < (n : Int)) := by omega
   clear hkg
   go_wp2
   go_ret
   exact ⟨rfl, HB.out⟩
theorem none_at (w : World) (l : Nat) : DgAt w none none ⟨[], [], l⟩ := ⟨RowAt.nil w, RowAt.nil w⟩
theorem ap1 (w : World) : Calls Tryz.prog 22 #[.agg #[.slice none 0 0, .slice none 0 0, .int .i64 1], .agg #[.int .i64 1, .int .i64 (-1), .int .i64 0, .int .i64 1, .bool false]] w
 fun e w' => ∃ (A B : Option Addr) (c1 c2 : Nat), e = .returned (.tuple #[.agg #[.slice A 1 c1, .slice B 4 c2, .int .i64 0], .agg #[.int .i64 2, .int .i64 0, .int .i64 0, .int .i64 0, .bool false], .int .i64 0]) ∧ IntsAt w' A 1 [1] ∧ IntsAt w' B 4 [1, 0, 3, 2] ∧ Below w.heap.size w w' := by
 refine (apply_1 ⟨[], [], 1⟩ (valid_empty (by omega)) none none 0 0 0 (-1) 0 1 false w rfl (none_at w 1) (by unfold inR; simp [Pl.Dg.n])).mono ?_
 rintro e w' ⟨_, h2, hb⟩
 obtain ⟨A, B, c1, c2, he, hd⟩ := h2 (by rfl)
 exact ⟨A, B, c1, c2, he, hd.at.s, hd.at.m, hb⟩
theorem ap2 (w : World) : Calls Tryz.prog 22 #[.agg #[.slice none 0 0, .slice none 0 0, .int .i64 2], .agg #[.int .i64 3, .int .i64 (-1), .int .i64 (-1), .int .i64 0, .bool false]] w
 fun e w' => ∃ (A B : Option Addr) (c1 c2 : Nat), e = .returned (.tuple #[.agg #[.slice A 2 c1, .slice B 8 c2, .int .i64 0], .agg #[.int .i64 4, .int .i64 0, .int .i64 1, .int .i64 0, .bool false], .int .i64 0]) ∧ DgAt w' A B two ∧ Below w.heap.size w w' := by
 refine (apply_3 ⟨[], [], 2⟩ (valid_empty (by omega)) none none 0 0 0 (-1) (-1) 0 false w rfl (none_at w 2) (by unfold inR; simp [Pl.Dg.n])).mono ?_
 rintro e w' ⟨_, h2, hb⟩
 have hc : pkQ ⟨[], [], 2⟩ (-1) (-1) 0 = 0 := by
  unfold pkQ
  rw [Pl.vb_false (fun h => absurd h.1 (by decide))]
  rfl
 obtain ⟨A, B, c1, c2, he, hd⟩ := h2 hc
 rw [two_is] at he hd
 exact ⟨A, B, c1, c2, he, hd.at, hb⟩
end Go.Proofs.YtlffopdoeobgaaaGreatDoor
end
section
namespace Go.Proofs.YtlffopdoeobgaaaGreatDoor
open Go Go.RowKit
attribute [local go_sem ↓] Go.wp_at_zero Go.wp_at_succ
theorem mv_get : ∀ (ms : List Mv) (j : Nat) (z : Mv), ms[j]? = some z → ∀ (i : Nat) (u : Value), z.cells[i]? = some u → (mvs ms)[j * 5 + i]? = some u
 | [], j, z, h, _, _, _ => by cases h
 | m :: ms, 0, z, h, i, u, hu => by
   obtain rfl : m = z := by simpa using h
   have hi : i < m.cells.length := (List.getElem?_eq_some_iff.1 hu).1
   show (m.cells ++ mvs ms)[0 * 5 + i]? = some u
   rw [Nat.zero_mul, Nat.zero_add, List.getElem?_append_left hi, hu]
 | m :: ms, j + 1, z, h, i, u, hu => by
   have ih := mv_get ms j z (by simpa using h) i u hu
   show (m.cells ++ mvs ms)[(j + 1) * 5 + i]? = some u
   have e : m.cells.length = 5 := rfl
   rw [List.getElem?_append_right (by rw [e]; omega), e, ← ih]
   congr 1
   omega
theorem mv_val {w : World} {v : Value} {ms : List Mv} (h : MovesAt w v ms) : ∃ (A : Option Addr) (c : Nat), v = .slice A ms.length c ∧ (0 < ms.length → ∃ g, A = some ⟨g, 0, none⟩ ∧ g < w.heap.size ∧ ∀ (j : Nat) (z : Mv), ms[j]? = some z → ∀ (i : Nat) (u : Value), z.cells[i]? = some u → w.cell? ⟨g, j * 5 + i, none⟩ = some u) := by
 obtain ⟨base, h⟩ := h
 obtain ⟨A, c, rfl⟩ := owns_slice h
 refine ⟨A, c, rfl, fun hp => ?_⟩
 obtain ⟨g, cap, e, _, hg⟩ := World.ownsRow.form h hp
 injection e with e1 _ _
 subst e1
 refine ⟨g, rfl, hg, fun j z hz i u hu => ?_⟩
 have hj : j < ms.length := (List.getElem?_eq_some_iff.1 hz).1
 have hi : i < 5 := (List.getElem?_eq_some_iff.1 hu).1
 rw [World.ownsRow.cellAt h (j * 5 + i) (by omega)]
 exact mv_get ms j z hz i u hu
def MovesV (w : World) (A : Option Addr) (n : Nat) (ms : List Mv) : Prop := n = ms.length ∧ (0 < n → ∃ g, A = some ⟨g, 0, none⟩ ∧ g < w.heap.size ∧ ∀ (j : Nat) (z : Mv), ms[j]? = some z → ∀ (i : Nat) (u : Value), z.cells[i]? = some u → w.cell? ⟨g, j * 5 + i, none⟩ = some u)
theorem MovesAt.mv {w : World} {v : Value} {ms : List Mv} (h : MovesAt w v ms) : ∃ (A : Option Addr) (c : Nat), v = .slice A ms.length c ∧ MovesV w A ms.length ms := by
 obtain ⟨A, c, e, h2⟩ := mv_val h
 exact ⟨A, c, e, rfl, h2⟩
end Go.Proofs.YtlffopdoeobgaaaGreatDoor
end
section
namespace Go.Proofs.YtlffopdoeobgaaaGreatDoor
open Go Go.RowKit
attribute [local go_sem ↓] Go.wp_at_zero Go.wp_at_succ
def gro (k : Int) : Int := if k = 1 then 1 else if k = 2 then -1 else if k = 3 then 2 else if k = 4 then -2 else 0
structure CB (W : World) (g1 g2 : Nat) (n : Nat) (most : Int) : Prop where
 n : Row W g1 3 [.int .i64 (n : Int)]
 m : Row W g2 3 [.int .i64 most]
end Go.Proofs.YtlffopdoeobgaaaGreatDoor
end
section
namespace Go.Proofs.YtlffopdoeobgaaaGreatDoor
open Go Go.RowKit
attribute [local go_sem ↓] Go.wp_at_zero Go.wp_at_succ
section
variable {w W W' W2 : World} {vR vS : Value} {rs ss : List Mv} {m : Mv} {g n c : Nat}
theorem apart {v u : Value} (ne : ∀ g, v.ownBlock = some g → u.ownBlock = some g → False) : u.ownBlock = none ∨ u.ownBlock ≠ v.ownBlock := by
 cases hu : u.ownBlock with
 | none => exact .inl rfl
 | some g => exact .inr (fun e => ne g e.symm hu)
end
end Go.Proofs.YtlffopdoeobgaaaGreatDoor
end
section
namespace Go.Proofs.YtlffopdoeobgaaaGreatDoor
open Go Go.RowKit
attribute [local go_sem ↓] Go.wp_at_zero Go.wp_at_succ
theorem cl0 (A : Option Addr) (c : Nat) (w : World) : Calls Tryz.prog 59 #[.slice A 0 c] w fun e w' => ∃ (A' : Option Addr) (c' : Nat), e = .returned (.slice A' 0 c') ∧ Below w.heap.size w w' := by
 cases A with
 | none =>
   refine (Tryz.slices_Clone_int_nil 0 c w).mono ?_
   rintro e w' ⟨rfl, rfl⟩
   exact ⟨none, 0, rfl, Below.refl _ _⟩
 | some a =>
   refine (Tryz.slices_Clone_int_zero a c w).mono ?_
   rintro e w' ⟨v, rfl, own, _, hb⟩
   obtain ⟨A', c', rfl⟩ := owns_slice own
   exact ⟨A', c', rfl, hb⟩
set_option maxRecDepth 100000 in
set_option maxHeartbeats 2000000 in
theorem clone_zero (A B : Option Addr) (cp cq : Nat) (lp : Int) (w : World) :
 Calls Tryz.prog 31 #[.agg #[.slice A 0 cp, .slice B 0 cq, .int .i64 lp]] w fun e w' => ∃ (A9 B9 : Option Addr) (c8 c9 : Nat), e = .returned (.agg #[.slice A9 0 c8, .slice B9 0 c9, .int .i64 lp]) ∧ Below w.heap.size w w' := by
 have HGS := hide (GS.start w (.slice A 0 cp) (.slice B 0 cq) (.int .i64 lp) (.slice none 0 0) (.slice none 0 0) (.int .i64 0))
 go_enter Tryz.func31, Tryz.ntmps31
 go_wp2_with fail
 obtain ⟨V0, hV0⟩ : ∃ V : World, V = (w.alloc (.cells #[.slice A 0 cp, .slice B 0 cq, .int .i64 lp] 24)).alloc (.cells #[.slice none 0 0, .slice none 0 0, .int .i64 0] 24) := ⟨_, rfl⟩
 rw [← hV0] at HGS ⊢
 have hv0 : w.heap.size + 2 ≤ V0.heap.size := by rw [hV0]; simp
 clear hV0
 obtain ⟨c0, c1, c2, c3, c4, c5, c6, _⟩ := HGS.out.all
 go_region_held3 (fun w' => w'.cell? ⟨w.heap.size, 0, none⟩ = some (.slice A 0 cp) ∧ w'.cell? ⟨w.heap.size, 1, none⟩ = some (.slice B 0 cq) ∧ w'.cell? ⟨w.heap.size, 2, none⟩ = some (.int .i64 lp) ∧ w'.cell? ⟨w.heap.size + 1, 0, none⟩ = some (cv w' ⟨w.heap.size + 1, 0, none⟩) ∧ w'.cell? ⟨w.heap.size + 1, 1, none⟩ = some (cv w' ⟨w.heap.size + 1, 1, none⟩) ∧ w'.cell? ⟨w.heap.size + 1, 2, none⟩ = some (cv w' ⟨w.heap.size + 1, 2, none⟩) ∧ (∀ o, w'.frozen? ⟨w.heap.size + 1, o, none⟩ = false) ∧ GS w w.heap.size (.slice A 0 cp) (.slice B 0 cq) (.int .i64 lp) w')
  ((go_split_ands; refine GS.all ?_; (repeat (first | (with_reducible assumption) | (with_reducible exact HGS.out) | (with_reducible refine GS.set ?_ _ _) | (with_reducible refine GS.drew ?_) | (with_reducible refine GS.below ?_ hbb) | (with_reducible refine GS.below ?_ hba)))))
  (first
    | (have hxa := hba
       clear hxa
       go_at_call 59
       refine Calls.mono (cl0 B cq _) ?_
       rintro e wb ⟨Ab, kb, rfl, hbb⟩)
    | (go_at_call 59
       refine Calls.mono (cl0 A cp _) ?_
       rintro e wa ⟨Aa, ka, rfl, hba⟩))
 clear c0 c1 c2 c3 c4 c5 c6
 have G5 := hide ((HGS.out.drew.below hba).below hbb)
 go_wp2
 refine bodyPost_ret (v := .agg #[.slice Aa 0 ka, .slice Ab 0 kb, .int .i64 lp]) ?_ rfl ⟨Aa, Ab, ka, kb, rfl, ?_⟩
 ·obtain ⟨e0, e1, e2⟩ := G5.out.fin (.slice Aa 0 ka) (.slice Ab 0 kb) (.int .i64 lp)
  simp [results, Tryz.results31, go_sem, e0, e1, e2]
 ·exact ((G5.out.bel.setCell (by show _ ≤ w.heap.size + 1; omega) _).setCell (by show _ ≤ w.heap.size + 1; omega) _).setCell (by show _ ≤ w.heap.size + 1; omega) _
theorem clone_all (d : Pl.Dg) (A B : Option Addr) (cp cq m : Nat) (w : World) (hm : m = 4 * d.n) (hg : DgAt w A B d) (hn : d.n ≤ 64) :
 Calls Tryz.prog 31 #[.agg #[.slice A d.n cp, .slice B m cq, .int .i64 d.lp]] w fun e w' => ∃ (A9 B9 : Option Addr) (c8 c9 : Nat), e = .returned (.agg #[.slice A9 d.n c8, .slice B9 m c9, .int .i64 d.lp]) ∧ DgT w' A9 B9 d ∧ Below w.heap.size w w' := by
 rcases Nat.eq_zero_or_pos d.n with h0 | h0
 ·have hs := hg.s.len
  have hmm := hg.m.len
  subst hm
  rw [h0] at hs hmm
  have := clone_zero A B cp cq d.lp w
  rw [h0]
  refine this.mono ?_
  rintro e w' ⟨A9, B9, c8, c9, rfl, hb⟩
  exact ⟨A9, B9, c8, c9, rfl, ⟨⟨by rw [h0]; simpa using hs, fun h => by omega⟩, ⟨by rw [h0]; simpa using hmm, fun h => by omega⟩⟩, hb⟩
 ·refine (clone_any d A B cp cq m w hm hg ⟨h0, hn⟩).mono ?_
  rintro e w' ⟨g1, c1, g2, c2, rfl, o1, o2, _, hb⟩
  exact ⟨_, _, c1, c2, rfl, ⟨own_intsT o1, by rw [← hm]; exact o2.intsT⟩, hb⟩
theorem eqI (A B : Option Addr) (n c e : Nat) (xs : List Int) (w : World) (ha : IntsAt w A n xs) (hb : IntsAt w B n xs) (hn : n ≤ 100000) :
 Calls Tryz.prog 39 #[.slice A n c, .slice B n e] w fun r w' => r = .returned (.bool true) ∧ Below w.heap.size w w' := by
 rcases Nat.eq_zero_or_pos n with h0 | h0
 ·subst h0
  refine (Tryz.slices_Equal_int_empty A B c 0 e w (by omega)).mono ?_
  rintro r w' ⟨rfl, rfl⟩
  exact ⟨rfl, Below.refl _ _⟩
 ·have hl := ha.len
  obtain ⟨b, o, rfl, _⟩ := ha.at_ (k := 0) h0
  obtain ⟨b2, o2, rfl, _⟩ := hb.at_ (k := 0) h0
  refine (Tryz.slices_Equal_int b o n c b2 o2 n e xs xs w (by omega) (by omega) (by omega) (by omega) (fun j hj => ?_) (fun j hj => ?_)).mono ?_
  ·obtain ⟨b', o', e1, hc⟩ := ha.at_ (k := j) (by omega)
   injection e1 with e1
   injection e1 with e1 e2
   subst e1
   subst e2
   exact hc
  ·obtain ⟨b', o', e1, hc⟩ := hb.at_ (k := j) (by omega)
   injection e1 with e1
   injection e1 with e1 e2
   subst e1
   subst e2
   exact hc
  ·rintro r w' ⟨rfl, q, rfl⟩
   exact ⟨by simp, below_drewN (Below.refl _ _) q⟩
set_option maxRecDepth 100000 in
set_option maxHeartbeats 2000000 in
theorem equal_yes (sg mt : List Int) (lp : Int) (A B A2 B2 : Option Addr) (n q cp cq cp2 cq2 : Nat) (w : World) (hs : IntsAt w A n sg) (hm : IntsAt w B q mt) (hs2 : IntsAt w A2 n sg) (hm2 : IntsAt w B2 q mt) (hn : n ≤ 100000) (hq : q ≤ 100000) :
 Calls Tryz.prog 24 #[.agg #[.slice A n cp, .slice B q cq, .int .i64 lp], .agg #[.slice A2 n cp2, .slice B2 q cq2, .int .i64 lp]] w fun e w' => e = .returned (.bool true) ∧ Below w.heap.size w w' := by
 have HS := hide hs
 have HM := hide hm
 have HS2 := hide hs2
 have HM2 := hide hm2
 clear hs hm hs2 hm2
 have R0 := hide ((row_at (W := w) (g := w.heap.size) (t := 24) (vs := [.slice A n cp, .slice B q cq, .int .i64 lp]) rfl).alloc (.cells #[.slice A2 n cp2, .slice B2 q cq2, .int .i64 lp] 24))
 have R1 := hide (row_at (W := w.alloc (.cells #[.slice A n cp, .slice B q cq, .int .i64 lp] 24)) (g := w.heap.size + 1) (t := 24) (vs := [.slice A2 n cp2, .slice B2 q cq2, .int .i64 lp]) (by simp))
 have B0 := hide (show Below w.heap.size w ((w.alloc (.cells #[.slice A n cp, .slice B q cq, .int .i64 lp] 24)).alloc (.cells #[.slice A2 n cp2, .slice B2 q cq2, .int .i64 lp] 24)) from ((Below.refl _ _).alloc (Nat.le_refl _) _).alloc (by simp) _)
 go_enter Tryz.func24, Tryz.ntmps24
 go_wp2_with fail
 refine (eqI A A2 n cp cp2 sg _ (HS.out.keep B0.out) (HS2.out.keep B0.out) hn).mono ?_
 rintro e w1 ⟨rfl, hb1⟩
 have S0 := hide (R0.out.below hb1)
 have S1 := hide (R1.out.below hb1)
 have B1 := hide (B0.out.trans (hb1.mono B0.out.size))
 clear hb1 R0 R1 B0
 obtain ⟨d0, d1, d2, d3⟩ := box3 S0.out
 obtain ⟨e0, e1, e2, e3⟩ := box3 S1.out
 go_wp2_with fail
 refine (eqI B B2 q cq cq2 mt _ (HM.out.keep B1.out) (HM2.out.keep B1.out) hq).mono ?_
 rintro e w2 ⟨rfl, hb2⟩
 have T0 := hide (S0.out.below hb2)
 have T1 := hide (S1.out.below hb2)
 have B2' := hide (B1.out.trans (hb2.mono B1.out.size))
 clear hb2 S0 S1 B1 d0 d1 d2 d3 e0 e1 e2 e3
 obtain ⟨d0, d1, d2, d3⟩ := box3 T0.out
 obtain ⟨e0, e1, e2, e3⟩ := box3 T1.out
 go_wp2
 go_ret
 exact ⟨rfl, B2'.out⟩
end Go.Proofs.YtlffopdoeobgaaaGreatDoor
end
