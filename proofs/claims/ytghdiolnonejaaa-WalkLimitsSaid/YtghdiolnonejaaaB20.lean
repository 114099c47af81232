/-
  The texts Xk, Sgn, Xl, Xu in one.
-/
import Derived.Test.YtghdiolnonejaaaB15
import Derived.Test.YtghdiolnonejaaaB17
import Derived.Test.YtghdiolnonejaaaB00
import Derived.Test.YtghdiolnonejaaaB02
import Derived.Test.YtghdiolnonejaaaB19
import Derived.Test.YtghdiolnonejaaaB16
set_option linter.unusedVariables false
set_option linter.unusedSimpArgs false

section
namespace Go.Proofs.Ytghdiolnonejaaa
open Go Go.RowKit
attribute [local go_sem ↓] Go.wp_at_zero Go.wp_at_succ
set_option maxRecDepth 100000 in
set_option maxHeartbeats 4000000 in
theorem apply_5 (d : Pl.Dg) (hd : Pl.Valid d) (A B : Option Addr) (cp cq m : Nat) (x : Nat) (y s : Int) (o : Bool) (w : World) (hm : m = 4 * d.n) (hg : DgAt w A B d) (hin : inR d.n ⟨5, (x : Int), y, s, o⟩) :
    Calls Try.prog 23 #[.agg #[.slice A d.n cp, .slice B m cq, .int .i64 d.lp], (Mv.mk 5 (x : Int) y s o).v] w (ResC (sldC d x) (sldD d x) (sldI d x) w) := by
  have hn := hd.wf.few
  have hlp := hd.wf.lp
  have HM := hide hm
  have HG := hide hg
  have hm2 : m ≤ 256 := by omega
  clear hm hg
  have PB0 := hide (boxes4 w (.slice A d.n cp) (.slice B m cq) (.int .i64 (d.lp : Int)) (.int .i64 5) (.int .i64 (x : Int)) (.int .i64 y) (.int .i64 s) (.bool o))
  unfold W4 at PB0
  obtain ⟨x0, x1, x2, x3, b0, s0⟩ := PB0.out
  have X0 := hide x0
  have X1 := hide x1
  have X2 := hide x2
  have X3 := hide x3
  have B0 := hide b0
  have S0 := hide s0
  clear x0 x1 x2 x3 b0 s0 PB0
  unfold Mv.v
  go_enter Try.func23, Try.ntmps23
  go_wp2_with fail
  refine (valid_yes d hd A B cp cq m _ HM.out (HG.out.keep B0.out)).mono ?_
  rintro e w1 ⟨rfl, hb1⟩
  have Y0 := hide (X0.out.below hb1)
  have Y1 := hide (X1.out.below hb1)
  have Y2 := hide (X2.out.below hb1)
  have Y3 := hide (X3.out.below hb1)
  have B1 := hide (B0.out.trans (hb1.mono B0.out.size))
  have hsz1 : w.heap.size + 4 ≤ w1.heap.size := by have := hb1.size; have := S0.out; omega
  clear X0 X1 X2 X3 B0 S0 hb1
  obtain ⟨d0, d1, d2, d3⟩ := box3 Y0.out
  obtain ⟨m0, m1, m2, m3, m4, m5⟩ := box5 Y1.out
  go_wp2_with fail
  refine (inRange_5 d.n (x : Int) y s o w1 (by omega)).mono ?_
  rintro e w2 ⟨rfl, hb2⟩
  rw [Pl.vb_true hin]
  have hsz : w.heap.size + 4 ≤ w2.heap.size := by have := hb2.size; omega
  have AB2 := hide (show AB w w2.heap.size (w2.heap.size + 1) [.slice A d.n cp, .slice B m cq, .int .i64 (d.lp : Int)] [.int .i64 5, .int .i64 (x : Int), .int .i64 y, .int .i64 s, .bool o] ((w2.alloc (.cells #[.slice none 0 0, .slice none 0 0, .int .i64 0] 24)).alloc (.cells #[.int .i64 0, .int .i64 0, .int .i64 0, .int .i64 0, .bool false] 37)) from
    ⟨((Y0.out.below hb2).alloc _).alloc _, ((Y1.out.below hb2).alloc _).alloc _, ⟨_, ((Y2.out.below hb2).alloc _).alloc _, rfl⟩, ⟨_, ((Y3.out.below hb2).alloc _).alloc _, rfl⟩, ⟨_, (row_at (vs := [_, _, _]) rfl).alloc _, rfl⟩, ⟨_, row_at (vs := [_, _, _, _, _]) (by simp), rfl⟩, ((B1.out.trans (hb2.mono B1.out.size)).alloc (B1.out.trans (hb2.mono B1.out.size)).size _).alloc ((B1.out.trans (hb2.mono B1.out.size)).alloc (B1.out.trans (hb2.mono B1.out.size)).size _).size _, by omega, by omega, by omega⟩)
  obtain ⟨d0', d1', d2', d3'⟩ := box3 (Y0.out.below hb2)
  obtain ⟨m0', m1', m2', m3', m4', m5'⟩ := box5 (Y1.out.below hb2)
  clear d0 d1 d2 d3 m0 m1 m2 m3 m4 m5 Y0 Y1 Y2 Y3 B1 hb2 hsz1
  have z1 : w.heap.size < w2.heap.size := by omega
  have z2 : w.heap.size + 1 < w2.heap.size := by omega
  have hx : x < 4 * d.n := by have := hin; unfold inR at this; simp at this; omega
  have HG2 := hide (HG.out.keep AB2.out.bel)
  go_wp2_with fail
  obtain ⟨gr, hgr⟩ : ∃ g, g = w2.heap.size := ⟨_, rfl⟩
  obtain ⟨gi, hgi⟩ : ∃ g, g = w2.heap.size + 1 := ⟨_, rfl⟩
  rw [← hgi, ← hgr] at AB2
  rw [← hgi, ← hgr]
  clear hgr hgi
  refine (slide_any d hd.wf A B cp cq m x 5 y s o _ HM.out HG2.out hx).mono ?_
  intro e w3 hres
  have AB3 := hide (AB2.out.below hres.2.2)
  obtain ⟨cc, hcc⟩ : ∃ c, c = sldC d x := ⟨_, rfl⟩
  obtain ⟨rr, hrr⟩ : ∃ r, r = sldD d x := ⟨_, rfl⟩
  obtain ⟨mm, hmm⟩ : ∃ r, r = sldI d x := ⟨_, rfl⟩
  unfold SldPost at hres
  rw [← hcc, ← hrr, ← hmm] at hres
  have HCC := hide hcc
  have HRR := hide hrr
  have HMM := hide hmm
  clear hcc hrr hmm d0' d1' d2' d3' m0' m1' m2' m3' m4' m5' AB2 HG2
  by_cases hc : cc = 0
  · obtain ⟨A9, B9, c8, c9, k9, x9, y9, s9, o9, hmv, rfl, hT⟩ := ResOk.split (hres.2.1 hc)
    have HMV := hide hmv
    have HC := hide hc
    clear hmv hc
    have AD3 := hide (show AD w gr gi _ _ A9 B9 rr w3 from ⟨AB3.out, hT⟩)
    clear hT
    obtain ⟨N9, hN9⟩ : ∃ n, n = rr.n := ⟨_, rfl⟩
    obtain ⟨L9, hL9⟩ : ∃ n, n = rr.lp := ⟨_, rfl⟩
    rw [← hN9, ← hL9]
    have HN9 := hide hN9
    have HL9 := hide hL9
    clear hN9 hL9
    obtain ⟨_, r3, l3⟩ := AB3.out.r
    obtain ⟨_, r4, l4⟩ := AB3.out.i
    obtain ⟨_, r5, l5⟩ := AB3.out.rd
    obtain ⟨_, r6, l6⟩ := AB3.out.rm
    obtain ⟨e0, e1, e2, e3⟩ := cells3 r3 l3
    obtain ⟨f0, f1, f2, f3, f4, f5⟩ := cells5 r4 l4
    obtain ⟨g0, g1, g2, g3⟩ := cells3 r5 l5
    obtain ⟨h0, h1, h2, h3, h4, h5⟩ := cells5 r6 l6
    have y1 : gr ≠ w.heap.size + 1 + 1 := by have := AB3.out.lr; omega
    have y2 : gr ≠ w.heap.size + 1 + 1 + 1 := by have := AB3.out.lr; omega
    have y3 : gi ≠ w.heap.size + 1 + 1 := by have := AB3.out.li; omega
    have y4 : gi ≠ w.heap.size + 1 + 1 + 1 := by have := AB3.out.li; omega
    have y5 : gr ≠ gi := AB3.out.ne
    have y6 : w.heap.size + 1 + 1 ≠ w.heap.size + 1 + 1 + 1 := by omega
    clear r3 l3 r4 l4 r5 l5 r6 l6
    go_upto_region 22 with fail
    go_region
    go_wp2_with fail
    clear e0 e1 e2 e3 f0 f1 f2 f3 f4 f5 g0 g1 g2 g3 h0 h1 h2 h3 h4 h5
    have AD4 := hide ((((((((AD3.out.setR 0 (.slice A9 N9 c8)).setR 1 (.slice B9 (4 * N9) c9)).setR 2 (.int .i64 (L9 : Int))).setI 0 (.int .i64 k9)).setI 1 (.int .i64 x9)).setI 2 (.int .i64 y9)).setI 3 (.int .i64 s9)).setI 4 (.bool o9))
    obtain ⟨_, r5, l5⟩ := AD4.out.b.rd
    obtain ⟨_, r6, l6⟩ := AD4.out.b.rm
    refine bodyPost_ret (v := .tuple #[.agg #[.slice A9 N9 c8, .slice B9 (4 * N9) c9, .int .i64 (L9 : Int)], .agg #[.int .i64 k9, .int .i64 x9, .int .i64 y9, .int .i64 s9, .bool o9], .int .i64 0]) ?_ rfl ?_
    · obtain ⟨e0, e1, e2, e3, e4, e5, e6, e7⟩ := fin8 r5 r6 l5 l6 (by omega) (.slice A9 N9 c8) (.slice B9 (4 * N9) c9) (.int .i64 (L9 : Int)) (.int .i64 k9) (.int .i64 x9) (.int .i64 y9) (.int .i64 s9) (.bool o9)
      simp [results, Try.results23, go_sem, e0, e1, e2, e3, e4, e5, e6, e7]
    · have AD5 := (((((((AD4.out.setD 0 (.slice A9 N9 c8)).setD 1 (.slice B9 (4 * N9) c9)).setD 2 (.int .i64 (L9 : Int))).setM 0 (.int .i64 k9)).setM 1 (.int .i64 x9)).setM 2 (.int .i64 y9)).setM 3 (.int .i64 s9)).setM 4 (.bool o9)
      rw [← HCC.out, ← HRR.out, ← HMM.out]
      refine ⟨fun h => absurd HC.out h, fun _ => ⟨A9, B9, c8, c9, by rw [HMV.out, ← HN9.out, ← HL9.out]; rfl, AD5.drew.t⟩, AD5.drew.b.bel⟩
  · have HC := hide hc
    have hE := ResErr.split (hres.1 hc)
    subst hE
    have t1 : (cc != 0) = true := by rw [bne_iff_ne]; exact hc
    clear hc
    obtain ⟨_, r3, l3⟩ := AB3.out.r
    obtain ⟨_, r4, l4⟩ := AB3.out.i
    obtain ⟨_, r5, l5⟩ := AB3.out.rd
    obtain ⟨_, r6, l6⟩ := AB3.out.rm
    obtain ⟨e0, e1, e2, e3⟩ := cells3 r3 l3
    obtain ⟨f0, f1, f2, f3, f4, f5⟩ := cells5 r4 l4
    obtain ⟨g0, g1, g2, g3⟩ := cells3 r5 l5
    obtain ⟨h0, h1, h2, h3, h4, h5⟩ := cells5 r6 l6
    have y1 : gr ≠ w.heap.size + 1 + 1 := by have := AB3.out.lr; omega
    have y2 : gr ≠ w.heap.size + 1 + 1 + 1 := by have := AB3.out.lr; omega
    have y3 : gi ≠ w.heap.size + 1 + 1 := by have := AB3.out.li; omega
    have y4 : gi ≠ w.heap.size + 1 + 1 + 1 := by have := AB3.out.li; omega
    have y5 : gr ≠ gi := AB3.out.ne
    have y6 : w.heap.size + 1 + 1 ≠ w.heap.size + 1 + 1 + 1 := by omega
    clear r3 l3 r4 l4 r5 l5 r6 l6
    go_wp2
    clear e0 e1 e2 e3 f0 f1 f2 f3 f4 f5 g0 g1 g2 g3 h0 h1 h2 h3 h4 h5
    have AB4 := (((((((AB3.out.setR 0 (.slice none 0 0)).setR 1 (.slice none 0 0)).setR 2 (.int .i64 0)).setI 0 (.int .i64 0)).setI 1 (.int .i64 0)).setI 2 (.int .i64 0)).setI 3 (.int .i64 0)).setI 4 (.bool false)
    obtain ⟨_, r5, l5⟩ := AB4.rd
    obtain ⟨_, r6, l6⟩ := AB4.rm
    refine bodyPost_ret (v := .tuple #[nilD, nilM, .int .i64 cc]) ?_ rfl ?_
    · obtain ⟨e0, e1, e2, e3, e4, e5, e6, e7⟩ := fin8 r5 r6 l5 l6 (by omega) (.slice none 0 0) (.slice none 0 0) (.int .i64 0) (.int .i64 0) (.int .i64 0) (.int .i64 0) (.int .i64 0) (.bool false)
      unfold nilD nilM
      simp [results, Try.results23, go_sem, e0, e1, e2, e3, e4, e5, e6, e7]
    · rw [← HCC.out, ← HRR.out, ← HMM.out]
      exact ⟨fun _ => (show ResErr _ _ from rfl), fun h => absurd h HC.out, below8 AB4.bel _ _ _ _ _ _ _ _⟩
set_option maxRecDepth 100000 in
set_option maxHeartbeats 2000000 in
theorem apply_r1 (d : Pl.Dg) (hd : Pl.Valid d) (A B : Option Addr) (cp cq m : Nat) (x y s : Int) (o : Bool) (w : World) (hm : m = 4 * d.n) (hg : DgAt w A B d) (hin : ¬ inR d.n ⟨1, x, y, s, o⟩) :
    Calls Try.prog 23 #[.agg #[.slice A d.n cp, .slice B m cq, .int .i64 d.lp], (Mv.mk 1 x y s o).v] w fun e w' => ResErr 2 e ∧ Below w.heap.size w w' := by
  have hn := hd.wf.few
  have hlp := hd.wf.lp
  have HM := hide hm
  have HG := hide hg
  have hm2 : m ≤ 256 := by omega
  clear hm hg
  have PB0 := hide (boxes4 w (.slice A d.n cp) (.slice B m cq) (.int .i64 (d.lp : Int)) (.int .i64 1) (.int .i64 x) (.int .i64 y) (.int .i64 s) (.bool o))
  unfold W4 at PB0
  obtain ⟨x0, x1, x2, x3, b0, s0⟩ := PB0.out
  have X0 := hide x0
  have X1 := hide x1
  have X2 := hide x2
  have X3 := hide x3
  have B0 := hide b0
  have S0 := hide s0
  clear x0 x1 x2 x3 b0 s0 PB0
  unfold Mv.v
  go_enter Try.func23, Try.ntmps23
  go_wp2_with fail
  refine (valid_yes d hd A B cp cq m _ HM.out (HG.out.keep B0.out)).mono ?_
  rintro e w1 ⟨rfl, hb1⟩
  have Y0 := hide (X0.out.below hb1)
  have Y1 := hide (X1.out.below hb1)
  have Y2 := hide (X2.out.below hb1)
  have Y3 := hide (X3.out.below hb1)
  have B1 := hide (B0.out.trans (hb1.mono B0.out.size))
  have hsz1 : w.heap.size + 4 ≤ w1.heap.size := by have := hb1.size; have := S0.out; omega
  clear X0 X1 X2 X3 B0 S0 hb1
  obtain ⟨d0, d1, d2, d3⟩ := box3 Y0.out
  obtain ⟨m0, m1, m2, m3, m4, m5⟩ := box5 Y1.out
  go_wp2_with fail
  refine (inRange_1 d.n x y s o w1 (by omega)).mono ?_
  rintro e w2 ⟨rfl, hb2⟩
  rw [Pl.vb_false hin]
  have Z2 := hide (Y2.out.below hb2)
  have Z3 := hide (Y3.out.below hb2)
  have B2 := hide (B1.out.trans (hb2.mono B1.out.size))
  clear d0 d1 d2 d3 m0 m1 m2 m3 m4 m5 Y0 Y1 Y2 Y3 B1 hb2
  obtain ⟨p0, p1, p2, p3⟩ := box3 Z2.out
  obtain ⟨q0, q1, q2, q3, q4, q5⟩ := box5 Z3.out
  go_wp2
  refine bodyPost_ret (v := .tuple #[nilD, nilM, .int .i64 2]) ?_ rfl ?_
  · obtain ⟨e0, e1, e2, e3, e4, e5, e6, e7⟩ := fin8 (Z2.out) (Z3.out) rfl rfl (by omega) (.slice none 0 0) (.slice none 0 0) (.int .i64 0) (.int .i64 0) (.int .i64 0) (.int .i64 0) (.int .i64 0) (.bool false)
    unfold nilD nilM
    simp [results, Try.results23, go_sem, e0, e1, e2, e3, e4, e5, e6, e7]
  · exact ⟨(show ResErr _ _ from rfl), below8 B2.out _ _ _ _ _ _ _ _⟩
set_option maxRecDepth 100000 in
set_option maxHeartbeats 2000000 in
theorem apply_r2 (d : Pl.Dg) (hd : Pl.Valid d) (A B : Option Addr) (cp cq m : Nat) (x y s : Int) (o : Bool) (w : World) (hm : m = 4 * d.n) (hg : DgAt w A B d) (hin : ¬ inR d.n ⟨2, x, y, s, o⟩) :
    Calls Try.prog 23 #[.agg #[.slice A d.n cp, .slice B m cq, .int .i64 d.lp], (Mv.mk 2 x y s o).v] w fun e w' => ResErr 2 e ∧ Below w.heap.size w w' := by
  have hn := hd.wf.few
  have hlp := hd.wf.lp
  have HM := hide hm
  have HG := hide hg
  have hm2 : m ≤ 256 := by omega
  clear hm hg
  have PB0 := hide (boxes4 w (.slice A d.n cp) (.slice B m cq) (.int .i64 (d.lp : Int)) (.int .i64 2) (.int .i64 x) (.int .i64 y) (.int .i64 s) (.bool o))
  unfold W4 at PB0
  obtain ⟨x0, x1, x2, x3, b0, s0⟩ := PB0.out
  have X0 := hide x0
  have X1 := hide x1
  have X2 := hide x2
  have X3 := hide x3
  have B0 := hide b0
  have S0 := hide s0
  clear x0 x1 x2 x3 b0 s0 PB0
  unfold Mv.v
  go_enter Try.func23, Try.ntmps23
  go_wp2_with fail
  refine (valid_yes d hd A B cp cq m _ HM.out (HG.out.keep B0.out)).mono ?_
  rintro e w1 ⟨rfl, hb1⟩
  have Y0 := hide (X0.out.below hb1)
  have Y1 := hide (X1.out.below hb1)
  have Y2 := hide (X2.out.below hb1)
  have Y3 := hide (X3.out.below hb1)
  have B1 := hide (B0.out.trans (hb1.mono B0.out.size))
  have hsz1 : w.heap.size + 4 ≤ w1.heap.size := by have := hb1.size; have := S0.out; omega
  clear X0 X1 X2 X3 B0 S0 hb1
  obtain ⟨d0, d1, d2, d3⟩ := box3 Y0.out
  obtain ⟨m0, m1, m2, m3, m4, m5⟩ := box5 Y1.out
  go_wp2_with fail
  refine (inRange_2 d.n x y s o w1 (by omega)).mono ?_
  rintro e w2 ⟨rfl, hb2⟩
  rw [Pl.vb_false hin]
  have Z2 := hide (Y2.out.below hb2)
  have Z3 := hide (Y3.out.below hb2)
  have B2 := hide (B1.out.trans (hb2.mono B1.out.size))
  clear d0 d1 d2 d3 m0 m1 m2 m3 m4 m5 Y0 Y1 Y2 Y3 B1 hb2
  obtain ⟨p0, p1, p2, p3⟩ := box3 Z2.out
  obtain ⟨q0, q1, q2, q3, q4, q5⟩ := box5 Z3.out
  go_wp2
  refine bodyPost_ret (v := .tuple #[nilD, nilM, .int .i64 2]) ?_ rfl ?_
  · obtain ⟨e0, e1, e2, e3, e4, e5, e6, e7⟩ := fin8 (Z2.out) (Z3.out) rfl rfl (by omega) (.slice none 0 0) (.slice none 0 0) (.int .i64 0) (.int .i64 0) (.int .i64 0) (.int .i64 0) (.int .i64 0) (.bool false)
    unfold nilD nilM
    simp [results, Try.results23, go_sem, e0, e1, e2, e3, e4, e5, e6, e7]
  · exact ⟨(show ResErr _ _ from rfl), below8 B2.out _ _ _ _ _ _ _ _⟩
set_option maxRecDepth 100000 in
set_option maxHeartbeats 2000000 in
theorem apply_r3 (d : Pl.Dg) (hd : Pl.Valid d) (A B : Option Addr) (cp cq m : Nat) (x y s : Int) (o : Bool) (w : World) (hm : m = 4 * d.n) (hg : DgAt w A B d) (hin : ¬ inR d.n ⟨3, x, y, s, o⟩) :
    Calls Try.prog 23 #[.agg #[.slice A d.n cp, .slice B m cq, .int .i64 d.lp], (Mv.mk 3 x y s o).v] w fun e w' => ResErr 2 e ∧ Below w.heap.size w w' := by
  have hn := hd.wf.few
  have hlp := hd.wf.lp
  have HM := hide hm
  have HG := hide hg
  have hm2 : m ≤ 256 := by omega
  clear hm hg
  have PB0 := hide (boxes4 w (.slice A d.n cp) (.slice B m cq) (.int .i64 (d.lp : Int)) (.int .i64 3) (.int .i64 x) (.int .i64 y) (.int .i64 s) (.bool o))
  unfold W4 at PB0
  obtain ⟨x0, x1, x2, x3, b0, s0⟩ := PB0.out
  have X0 := hide x0
  have X1 := hide x1
  have X2 := hide x2
  have X3 := hide x3
  have B0 := hide b0
  have S0 := hide s0
  clear x0 x1 x2 x3 b0 s0 PB0
  unfold Mv.v
  go_enter Try.func23, Try.ntmps23
  go_wp2_with fail
  refine (valid_yes d hd A B cp cq m _ HM.out (HG.out.keep B0.out)).mono ?_
  rintro e w1 ⟨rfl, hb1⟩
  have Y0 := hide (X0.out.below hb1)
  have Y1 := hide (X1.out.below hb1)
  have Y2 := hide (X2.out.below hb1)
  have Y3 := hide (X3.out.below hb1)
  have B1 := hide (B0.out.trans (hb1.mono B0.out.size))
  have hsz1 : w.heap.size + 4 ≤ w1.heap.size := by have := hb1.size; have := S0.out; omega
  clear X0 X1 X2 X3 B0 S0 hb1
  obtain ⟨d0, d1, d2, d3⟩ := box3 Y0.out
  obtain ⟨m0, m1, m2, m3, m4, m5⟩ := box5 Y1.out
  go_wp2_with fail
  refine (inRange_3 d.n x y s o w1 (by omega)).mono ?_
  rintro e w2 ⟨rfl, hb2⟩
  rw [Pl.vb_false hin]
  have Z2 := hide (Y2.out.below hb2)
  have Z3 := hide (Y3.out.below hb2)
  have B2 := hide (B1.out.trans (hb2.mono B1.out.size))
  clear d0 d1 d2 d3 m0 m1 m2 m3 m4 m5 Y0 Y1 Y2 Y3 B1 hb2
  obtain ⟨p0, p1, p2, p3⟩ := box3 Z2.out
  obtain ⟨q0, q1, q2, q3, q4, q5⟩ := box5 Z3.out
  go_wp2
  refine bodyPost_ret (v := .tuple #[nilD, nilM, .int .i64 2]) ?_ rfl ?_
  · obtain ⟨e0, e1, e2, e3, e4, e5, e6, e7⟩ := fin8 (Z2.out) (Z3.out) rfl rfl (by omega) (.slice none 0 0) (.slice none 0 0) (.int .i64 0) (.int .i64 0) (.int .i64 0) (.int .i64 0) (.int .i64 0) (.bool false)
    unfold nilD nilM
    simp [results, Try.results23, go_sem, e0, e1, e2, e3, e4, e5, e6, e7]
  · exact ⟨(show ResErr _ _ from rfl), below8 B2.out _ _ _ _ _ _ _ _⟩
set_option maxRecDepth 100000 in
set_option maxHeartbeats 2000000 in
theorem apply_r4 (d : Pl.Dg) (hd : Pl.Valid d) (A B : Option Addr) (cp cq m : Nat) (x y s : Int) (o : Bool) (w : World) (hm : m = 4 * d.n) (hg : DgAt w A B d) (hin : ¬ inR d.n ⟨4, x, y, s, o⟩) :
    Calls Try.prog 23 #[.agg #[.slice A d.n cp, .slice B m cq, .int .i64 d.lp], (Mv.mk 4 x y s o).v] w fun e w' => ResErr 2 e ∧ Below w.heap.size w w' := by
  have hn := hd.wf.few
  have hlp := hd.wf.lp
  have HM := hide hm
  have HG := hide hg
  have hm2 : m ≤ 256 := by omega
  clear hm hg
  have PB0 := hide (boxes4 w (.slice A d.n cp) (.slice B m cq) (.int .i64 (d.lp : Int)) (.int .i64 4) (.int .i64 x) (.int .i64 y) (.int .i64 s) (.bool o))
  unfold W4 at PB0
  obtain ⟨x0, x1, x2, x3, b0, s0⟩ := PB0.out
  have X0 := hide x0
  have X1 := hide x1
  have X2 := hide x2
  have X3 := hide x3
  have B0 := hide b0
  have S0 := hide s0
  clear x0 x1 x2 x3 b0 s0 PB0
  unfold Mv.v
  go_enter Try.func23, Try.ntmps23
  go_wp2_with fail
  refine (valid_yes d hd A B cp cq m _ HM.out (HG.out.keep B0.out)).mono ?_
  rintro e w1 ⟨rfl, hb1⟩
  have Y0 := hide (X0.out.below hb1)
  have Y1 := hide (X1.out.below hb1)
  have Y2 := hide (X2.out.below hb1)
  have Y3 := hide (X3.out.below hb1)
  have B1 := hide (B0.out.trans (hb1.mono B0.out.size))
  have hsz1 : w.heap.size + 4 ≤ w1.heap.size := by have := hb1.size; have := S0.out; omega
  clear X0 X1 X2 X3 B0 S0 hb1
  obtain ⟨d0, d1, d2, d3⟩ := box3 Y0.out
  obtain ⟨m0, m1, m2, m3, m4, m5⟩ := box5 Y1.out
  go_wp2_with fail
  refine (inRange_4 d.n x y s o w1 (by omega)).mono ?_
  rintro e w2 ⟨rfl, hb2⟩
  rw [Pl.vb_false hin]
  have Z2 := hide (Y2.out.below hb2)
  have Z3 := hide (Y3.out.below hb2)
  have B2 := hide (B1.out.trans (hb2.mono B1.out.size))
  clear d0 d1 d2 d3 m0 m1 m2 m3 m4 m5 Y0 Y1 Y2 Y3 B1 hb2
  obtain ⟨p0, p1, p2, p3⟩ := box3 Z2.out
  obtain ⟨q0, q1, q2, q3, q4, q5⟩ := box5 Z3.out
  go_wp2
  refine bodyPost_ret (v := .tuple #[nilD, nilM, .int .i64 2]) ?_ rfl ?_
  · obtain ⟨e0, e1, e2, e3, e4, e5, e6, e7⟩ := fin8 (Z2.out) (Z3.out) rfl rfl (by omega) (.slice none 0 0) (.slice none 0 0) (.int .i64 0) (.int .i64 0) (.int .i64 0) (.int .i64 0) (.int .i64 0) (.bool false)
    unfold nilD nilM
    simp [results, Try.results23, go_sem, e0, e1, e2, e3, e4, e5, e6, e7]
  · exact ⟨(show ResErr _ _ from rfl), below8 B2.out _ _ _ _ _ _ _ _⟩
set_option maxRecDepth 100000 in
set_option maxHeartbeats 2000000 in
theorem apply_r5 (d : Pl.Dg) (hd : Pl.Valid d) (A B : Option Addr) (cp cq m : Nat) (x y s : Int) (o : Bool) (w : World) (hm : m = 4 * d.n) (hg : DgAt w A B d) (hin : ¬ inR d.n ⟨5, x, y, s, o⟩) :
    Calls Try.prog 23 #[.agg #[.slice A d.n cp, .slice B m cq, .int .i64 d.lp], (Mv.mk 5 x y s o).v] w fun e w' => ResErr 2 e ∧ Below w.heap.size w w' := by
  have hn := hd.wf.few
  have hlp := hd.wf.lp
  have HM := hide hm
  have HG := hide hg
  have hm2 : m ≤ 256 := by omega
  clear hm hg
  have PB0 := hide (boxes4 w (.slice A d.n cp) (.slice B m cq) (.int .i64 (d.lp : Int)) (.int .i64 5) (.int .i64 x) (.int .i64 y) (.int .i64 s) (.bool o))
  unfold W4 at PB0
  obtain ⟨x0, x1, x2, x3, b0, s0⟩ := PB0.out
  have X0 := hide x0
  have X1 := hide x1
  have X2 := hide x2
  have X3 := hide x3
  have B0 := hide b0
  have S0 := hide s0
  clear x0 x1 x2 x3 b0 s0 PB0
  unfold Mv.v
  go_enter Try.func23, Try.ntmps23
  go_wp2_with fail
  refine (valid_yes d hd A B cp cq m _ HM.out (HG.out.keep B0.out)).mono ?_
  rintro e w1 ⟨rfl, hb1⟩
  have Y0 := hide (X0.out.below hb1)
  have Y1 := hide (X1.out.below hb1)
  have Y2 := hide (X2.out.below hb1)
  have Y3 := hide (X3.out.below hb1)
  have B1 := hide (B0.out.trans (hb1.mono B0.out.size))
  have hsz1 : w.heap.size + 4 ≤ w1.heap.size := by have := hb1.size; have := S0.out; omega
  clear X0 X1 X2 X3 B0 S0 hb1
  obtain ⟨d0, d1, d2, d3⟩ := box3 Y0.out
  obtain ⟨m0, m1, m2, m3, m4, m5⟩ := box5 Y1.out
  go_wp2_with fail
  refine (inRange_5 d.n x y s o w1 (by omega)).mono ?_
  rintro e w2 ⟨rfl, hb2⟩
  rw [Pl.vb_false hin]
  have Z2 := hide (Y2.out.below hb2)
  have Z3 := hide (Y3.out.below hb2)
  have B2 := hide (B1.out.trans (hb2.mono B1.out.size))
  clear d0 d1 d2 d3 m0 m1 m2 m3 m4 m5 Y0 Y1 Y2 Y3 B1 hb2
  obtain ⟨p0, p1, p2, p3⟩ := box3 Z2.out
  obtain ⟨q0, q1, q2, q3, q4, q5⟩ := box5 Z3.out
  go_wp2
  refine bodyPost_ret (v := .tuple #[nilD, nilM, .int .i64 2]) ?_ rfl ?_
  · obtain ⟨e0, e1, e2, e3, e4, e5, e6, e7⟩ := fin8 (Z2.out) (Z3.out) rfl rfl (by omega) (.slice none 0 0) (.slice none 0 0) (.int .i64 0) (.int .i64 0) (.int .i64 0) (.int .i64 0) (.int .i64 0) (.bool false)
    unfold nilD nilM
    simp [results, Try.results23, go_sem, e0, e1, e2, e3, e4, e5, e6, e7]
  · exact ⟨(show ResErr _ _ from rfl), below8 B2.out _ _ _ _ _ _ _ _⟩
set_option maxRecDepth 100000 in
set_option maxHeartbeats 2000000 in
theorem apply_k (d : Pl.Dg) (hd : Pl.Valid d) (A B : Option Addr) (cp cq m : Nat) (k x y s : Int) (o : Bool) (w : World) (hm : m = 4 * d.n) (hg : DgAt w A B d) (hk : k < 1 ∨ 5 < k) :
    Calls Try.prog 23 #[.agg #[.slice A d.n cp, .slice B m cq, .int .i64 d.lp], (Mv.mk k x y s o).v] w fun e w' => ResErr 11 e ∧ Below w.heap.size w w' := by
  have hn := hd.wf.few
  have hlp := hd.wf.lp
  have HM := hide hm
  have HG := hide hg
  have hm2 : m ≤ 256 := by omega
  clear hm hg
  have PB0 := hide (boxes4 w (.slice A d.n cp) (.slice B m cq) (.int .i64 (d.lp : Int)) (.int .i64 k) (.int .i64 x) (.int .i64 y) (.int .i64 s) (.bool o))
  unfold W4 at PB0
  obtain ⟨x0, x1, x2, x3, b0, s0⟩ := PB0.out
  have X0 := hide x0
  have X1 := hide x1
  have X2 := hide x2
  have X3 := hide x3
  have B0 := hide b0
  have S0 := hide s0
  clear x0 x1 x2 x3 b0 s0 PB0
  unfold Mv.v
  go_enter Try.func23, Try.ntmps23
  go_wp2_with fail
  refine (valid_yes d hd A B cp cq m _ HM.out (HG.out.keep B0.out)).mono ?_
  rintro e w1 ⟨rfl, hb1⟩
  have Y0 := hide (X0.out.below hb1)
  have Y1 := hide (X1.out.below hb1)
  have Y2 := hide (X2.out.below hb1)
  have Y3 := hide (X3.out.below hb1)
  have B1 := hide (B0.out.trans (hb1.mono B0.out.size))
  have hsz1 : w.heap.size + 4 ≤ w1.heap.size := by have := hb1.size; have := S0.out; omega
  clear X0 X1 X2 X3 B0 S0 hb1
  obtain ⟨d0, d1, d2, d3⟩ := box3 Y0.out
  obtain ⟨m0, m1, m2, m3, m4, m5⟩ := box5 Y1.out
  obtain ⟨p0, p1, p2, p3⟩ := box3 Y2.out
  obtain ⟨q0, q1, q2, q3, q4, q5⟩ := box5 Y3.out
  by_cases h1 : k < 1
  · go_wp2
    refine bodyPost_ret (v := .tuple #[nilD, nilM, .int .i64 11]) ?_ rfl ?_
    · obtain ⟨e0, e1, e2, e3, e4, e5, e6, e7⟩ := fin8 (Y2.out) (Y3.out) rfl rfl (by omega) (.slice none 0 0) (.slice none 0 0) (.int .i64 0) (.int .i64 0) (.int .i64 0) (.int .i64 0) (.int .i64 0) (.bool false)
      unfold nilD nilM
      simp [results, Try.results23, go_sem, e0, e1, e2, e3, e4, e5, e6, e7]
    · exact ⟨(show ResErr _ _ from rfl), below8 B1.out _ _ _ _ _ _ _ _⟩
  · have h2 : 5 < k := by omega
    go_wp2
    refine bodyPost_ret (v := .tuple #[nilD, nilM, .int .i64 11]) ?_ rfl ?_
    · obtain ⟨e0, e1, e2, e3, e4, e5, e6, e7⟩ := fin8 (Y2.out) (Y3.out) rfl rfl (by omega) (.slice none 0 0) (.slice none 0 0) (.int .i64 0) (.int .i64 0) (.int .i64 0) (.int .i64 0) (.int .i64 0) (.bool false)
      unfold nilD nilM
      simp [results, Try.results23, go_sem, e0, e1, e2, e3, e4, e5, e6, e7]
    · exact ⟨(show ResErr _ _ from rfl), below8 B1.out _ _ _ _ _ _ _ _⟩
/-- What Apply answers at a valid diagram: the code, the diagram, the inverse. -/
noncomputable def apC (d : Pl.Dg) (m : Mv) : Int :=
  if m.kind < 1 ∨ 5 < m.kind then 11 else if Pl.vb (inR d.n m) = false then 2 else if m.kind = 1 then curlableC d m.x else if m.kind = 2 then uncC d m.x.toNat else if m.kind = 3 then pkQ d m.x m.y m.sign else if m.kind = 4 then unpC d m.x.toNat m.y.toNat else sldC d m.x.toNat
def apD (d : Pl.Dg) (m : Mv) : Pl.Dg :=
  if m.kind = 1 then crl d m.x m.sign m.over else if m.kind = 2 then unD d m.x.toNat else if m.kind = 3 then pkD d m.x m.y m.sign m.over else if m.kind = 4 then unpD d m.x.toNat m.y.toNat else sldD d m.x.toNat
def apI (d : Pl.Dg) (m : Mv) : Mv :=
  if m.kind = 1 then ⟨2, d.n, 0, 0, false⟩ else if m.kind = 2 then unI d m.x.toNat else if m.kind = 3 then ⟨4, d.n, d.n + 1, 0, false⟩ else if m.kind = 4 then unpI d m.x.toNat m.y.toNat else sldI d m.x.toNat
theorem resC_err {c : Int} {r : Pl.Dg} {mv : Mv} {w : World} {e : Ending} {w' : World} (hc : c ≠ 0) (h : ResErr c e ∧ Below w.heap.size w w') : ResC c r mv w e w' := ⟨fun _ => h.1, fun h0 => absurd h0 hc, h.2⟩
theorem apply_any (d : Pl.Dg) (hd : Pl.Valid d) (A B : Option Addr) (cp cq m : Nat) (mv : Mv) (w : World) (hm : m = 4 * d.n) (hg : DgAt w A B d) :
    Calls Try.prog 23 #[.agg #[.slice A d.n cp, .slice B m cq, .int .i64 d.lp], mv.v] w (ResC (apC d mv) (apD d mv) (apI d mv) w) := by
  obtain ⟨k, x, y, s, o⟩ := mv
  by_cases hk : k < 1 ∨ 5 < k
  · have e : apC d ⟨k, x, y, s, o⟩ = 11 := by unfold apC; rw [if_pos hk]
    rw [e]
    exact (apply_k d hd A B cp cq m k x y s o w hm hg hk).mono fun e w' h => resC_err (by decide) h
  · by_cases hin : inR d.n ⟨k, x, y, s, o⟩
    · have hv : ¬ (Pl.vb (inR d.n ⟨k, x, y, s, o⟩) = false) := by rw [Pl.vb_true hin]; decide
      have e0 : apC d ⟨k, x, y, s, o⟩ = if k = 1 then curlableC d x else if k = 2 then uncC d x.toNat else if k = 3 then pkQ d x y s else if k = 4 then unpC d x.toNat y.toNat else sldC d x.toNat := by unfold apC; rw [if_neg hk, if_neg hv]
      have hk5 : k = 1 ∨ k = 2 ∨ k = 3 ∨ k = 4 ∨ k = 5 := by omega
      rcases hk5 with rfl | rfl | rfl | rfl | rfl
      · rw [e0]
        exact apply_1 d hd A B cp cq m x y s o w hm hg hin
      · obtain ⟨c, rfl⟩ := Int.eq_ofNat_of_zero_le (show 0 ≤ x by have := hin; unfold inR at this; simp at this; omega)
        rw [e0]
        exact apply_2 d hd A B cp cq m c y s o w hm hg hin
      · rw [e0]
        exact apply_3 d hd A B cp cq m x y s o w hm hg hin
      · obtain ⟨c, rfl⟩ := Int.eq_ofNat_of_zero_le (show 0 ≤ x by have := hin; unfold inR at this; simp at this; omega)
        obtain ⟨c', rfl⟩ := Int.eq_ofNat_of_zero_le (show 0 ≤ y by have := hin; unfold inR at this; simp at this; omega)
        rw [e0]
        exact apply_4 d hd A B cp cq m c c' s o w hm hg hin
      · obtain ⟨c, rfl⟩ := Int.eq_ofNat_of_zero_le (show 0 ≤ x by have := hin; unfold inR at this; simp at this; omega)
        rw [e0]
        exact apply_5 d hd A B cp cq m c y s o w hm hg hin
    · have e : apC d ⟨k, x, y, s, o⟩ = 2 := by unfold apC; rw [if_neg hk, if_pos (Pl.vb_false hin)]
      rw [e]
      have hk5 : k = 1 ∨ k = 2 ∨ k = 3 ∨ k = 4 ∨ k = 5 := by omega
      rcases hk5 with rfl | rfl | rfl | rfl | rfl
      · exact (apply_r1 d hd A B cp cq m x y s o w hm hg hin).mono fun e w' h => resC_err (by decide) h
      · exact (apply_r2 d hd A B cp cq m x y s o w hm hg hin).mono fun e w' h => resC_err (by decide) h
      · exact (apply_r3 d hd A B cp cq m x y s o w hm hg hin).mono fun e w' h => resC_err (by decide) h
      · exact (apply_r4 d hd A B cp cq m x y s o w hm hg hin).mono fun e w' h => resC_err (by decide) h
      · exact (apply_r5 d hd A B cp cq m x y s o w hm hg hin).mono fun e w' h => resC_err (by decide) h
end Go.Proofs.Ytghdiolnonejaaa
end

section
namespace Go.Proofs.Ytghdiolnonejaaa.Pl
/-- The sum of the first k. -/
def sm (f : Nat → Int) : Nat → Int
  | 0 => 0
  | k + 1 => sm f k + f k
theorem sum_append' (l r : List Int) : (l ++ r).sum = l.sum + r.sum := by simp
theorem sum_one (x : Int) : [x].sum = x := by simp
theorem left_sum_one (f : Nat → Int) (c : Nat) : ∀ k, ((left k [c]).map f).sum = sm f k - if c < k then f c else 0
  | 0 => by simp [left_zero, sm]
  | k + 1 => by
    rw [left_succ, List.map_append, sum_append', left_sum_one f c k]
    show _ = sm f k + f k - _
    by_cases h : k = c
    · subst h; simp; try omega
    · have : ([c].contains k) = false := by simp [h]
      rw [this]
      simp only [Bool.false_eq_true, if_false, List.map_cons, List.map_nil, sum_one]
      by_cases h2 : c < k
      · rw [if_pos h2, if_pos (by omega)]; omega
      · rw [if_neg h2, if_neg (by omega)]; omega
theorem left_sum_two (f : Nat → Int) {x y : Nat} (hxy : x < y) : ∀ k, ((left k [x, y]).map f).sum = sm f k - (if x < k then f x else 0) - if y < k then f y else 0
  | 0 => by simp [left_zero, sm]
  | k + 1 => by
    rw [left_succ, List.map_append, sum_append', left_sum_two f hxy k]
    show _ = sm f k + f k - _ - _
    by_cases h : k = x
    · subst h
      have : ([k, y].contains k) = true := by simp
      rw [this]
      simp only [if_true, List.map_nil, List.sum_nil]
      rw [if_neg (Nat.lt_irrefl _), if_pos (Nat.lt_succ_self _), if_neg (by omega), if_neg (by omega)]
      omega
    · by_cases h3 : k = y
      · subst h3
        have : ([x, k].contains k) = true := by simp
        rw [this]
        simp only [if_true, List.map_nil, List.sum_nil]
        rw [if_pos hxy, if_neg (Nat.lt_irrefl k), if_pos (show x < k + 1 by omega), if_pos (Nat.lt_succ_self k)]
        omega
      · have : ([x, y].contains k) = false := by simp [h, h3]
        rw [this]
        simp only [Bool.false_eq_true, if_false, List.map_cons, List.map_nil, sum_one]
        by_cases h2 : x < k <;> by_cases h4 : y < k
        · rw [if_pos h2, if_pos (show x < k + 1 by omega), if_pos h4, if_pos (show y < k + 1 by omega)]; omega
        · rw [if_pos h2, if_pos (show x < k + 1 by omega), if_neg h4, if_neg (show ¬ y < k + 1 by omega)]; omega
        · omega
        · rw [if_neg h2, if_neg (show ¬ x < k + 1 by omega), if_neg h4, if_neg (show ¬ y < k + 1 by omega)]; omega
/-- A list's sum, prefix by prefix. -/
theorem sm_list (l : List Int) : sm (fun c => l.getD c 0) l.length = l.sum := by
  have key : ∀ (l : List Int) (k : Nat), k ≤ l.length → sm (fun c => l.getD c 0) k = (l.take k).sum := by
    intro l k
    induction k with
    | zero => intro _; rfl
    | succ k ih =>
      intro h
      show sm _ k + l.getD k 0 = _
      rw [ih (by omega), List.take_add_one, List.getElem?_eq_getElem (by omega), sum_append', List.getD_eq_getElem?_getD, List.getElem?_eq_getElem (by omega)]
      simp
  rw [key l l.length (Nat.le_refl _), List.take_length]
theorem shrS_one (sg : List Int) {c : Nat} (h : c < sg.length) : (shrS [c] sg).sum = sg.sum - sg.getD c 0 := by
  unfold shrS
  rw [left_sum_one, if_pos h, sm_list]
theorem shrS_two (sg : List Int) {x y : Nat} (hxy : x < y) (h : y < sg.length) : (shrS [x, y] sg).sum = sg.sum - sg.getD x 0 - sg.getD y 0 := by
  unfold shrS
  rw [left_sum_two _ hxy, if_pos (by omega), if_pos h, sm_list]
/-- THE SIGNS OF A LENS are opposite. -/
theorem lens_signs {d : Dg} (hd : Wf d) {h : Nat} (hh : h < 4 * d.n) (hg : nx d (nx d h) = h) (hp : h % 2 = d.m h % 2) : d.s (h / 4) + d.s (nx d h / 4) = 0 := by
  have hm := hd.lt h hh
  have w1 := hd.way h hh
  have hgl : nx d h < 4 * d.n := tn_lt hm
  have w2 := hd.way (nx d h) hgl
  have s1 := hd.sign (h / 4) (by omega)
  have s2 := hd.sign (d.m h / 4) (by omega)
  have e1 : d.m (nx d h) / 4 = h / 4 := by
    have := congrArg (· / 4) hg
    simp only [nx, tn_div] at this
    exact this
  have e2 : d.m (nx d h) % 4 = (h % 4 + 1) % 4 := by
    have := congrArg (· % 4) hg
    unfold nx at this
    simp only [tn_mod] at this
    rw [← this]
    unfold nx
    omega
  have e3 : nx d h / 4 = d.m h / 4 := by unfold nx; rw [tn_div]
  have e4 : nx d h % 4 = (d.m h % 4 + 3) % 4 := by unfold nx; rw [tn_mod]
  rw [e3]
  unfold out at w1 w2
  rw [e1, e2, e3, e4] at w2
  generalize d.s (h / 4) = s at *
  generalize d.s (d.m h / 4) = t at *
  have ha : h % 4 = 0 ∨ h % 4 = 1 ∨ h % 4 = 2 ∨ h % 4 = 3 := by omega
  have hb : d.m h % 4 = 0 ∨ d.m h % 4 = 1 ∨ d.m h % 4 = 2 ∨ d.m h % 4 = 3 := by omega
  rcases ha with a | a | a | a <;> rcases hb with b | b | b | b <;> (first | (exfalso; omega) | skip) <;> rw [a, b] at w1 w2 <;> rcases s1 with rfl | rfl <;> rcases s2 with rfl | rfl <;> simp at w1 w2 ⊢
end Go.Proofs.Ytghdiolnonejaaa.Pl
end

section
namespace Go.Proofs.Ytghdiolnonejaaa
open Go Go.RowKit
/-- By how much the sum of the signs changes; how many crossings are added. -/
def byK (m : Mv) (s : Int) : Int := if m.kind = 1 then m.sign else if m.kind = 2 then -s else 0
def moreK (m : Mv) : Int := if m.kind = 1 then 1 else if m.kind = 2 then -1 else if m.kind = 3 then 2 else if m.kind = 4 then -2 else 0
def Sml (l : List Int) : Prop := ∀ z, z ∈ l → -1 ≤ z ∧ z ≤ 1
theorem wf_sml {d : Pl.Dg} (hd : Pl.Wf d) : Sml d.sg := fun z hz => by
  obtain ⟨k, hk, rfl⟩ := List.getElem_of_mem hz
  have := hd.sign k hk
  unfold Pl.Dg.s at this
  rw [List.getD_eq_getElem?_getD, List.getElem?_eq_getElem hk] at this
  simp at this
  omega
theorem sml_app {l r : List Int} (h : Sml l) (h' : Sml r) : Sml (l ++ r) := fun z hz => by
  rcases List.mem_append.1 hz with h1 | h1
  · exact h z h1
  · exact h' z h1
theorem shr_sml {l : List Int} (h : Sml l) (gs : List Nat) : Sml (Pl.shrS gs l) := fun z hz => by
  unfold Pl.shrS at hz
  obtain ⟨c, _, rfl⟩ := List.mem_map.1 hz
  rw [List.getD_eq_getElem?_getD]
  cases hc : l[c]? with
  | none => simp
  | some v => exact h v (List.mem_of_getElem? hc)
theorem sgn2_sml (a b : Nat) : -1 ≤ sgn2 a b ∧ sgn2 a b ≤ 1 := by unfold sgn2; split <;> omega
theorem poke_signs (d : Pl.Dg) (x y : Int) (ov : Bool) : sgn2 (un0 d x y ov) (ov0 d x y ov) + sgn2 (un1 d x y ov) (ov1 d x y ov) = 0 := by
  unfold sgn2 un0 ov0 un1 ov1 lnS th0 th1 plc
  cases ov <;> cases fwd d y <;> cases fwd d x <;> decide
/-- THE LAW: at a move that is applied. -/
theorem signs_law {d : Pl.Dg} (hd : Pl.Valid d) (m : Mv) (h : apC d m = 0) :
    (apD d m).sg.sum = d.sg.sum + byK m (apI d m).sign ∧ ((apD d m).sg.length : Int) = d.sg.length + moreK m ∧ Sml (apD d m).sg := by
  obtain ⟨k, x, y, s, o⟩ := m
  have hs := wf_sml hd.wf
  by_cases hk : k < 1 ∨ 5 < k
  · unfold apC at h; rw [if_pos hk] at h; exact absurd h (by decide)
  by_cases hin : inR d.n ⟨k, x, y, s, o⟩
  · have hv : ¬ (Pl.vb (inR d.n ⟨k, x, y, s, o⟩) = false) := by rw [Pl.vb_true hin]; decide
    have e0 : apC d ⟨k, x, y, s, o⟩ = if k = 1 then curlableC d x else if k = 2 then uncC d x.toNat else if k = 3 then pkQ d x y s else if k = 4 then unpC d x.toNat y.toNat else sldC d x.toNat := by unfold apC; rw [if_neg hk, if_neg hv]
    rw [e0] at h
    have hk5 : k = 1 ∨ k = 2 ∨ k = 3 ∨ k = 4 ∨ k = 5 := by omega
    rcases hk5 with rfl | rfl | rfl | rfl | rfl
    · have hsg : s = 1 ∨ s = -1 := by have := hin; unfold inR at this; simp at this; omega
      refine ⟨?_, ?_, ?_⟩
      · show (d.sg ++ [s]).sum = d.sg.sum + s
        simp
      · show ((d.sg ++ [s]).length : Int) = d.sg.length + 1
        simp
      · show Sml (d.sg ++ [s])
        exact sml_app hs (fun z hz => by simp at hz; subst hz; omega)
    · obtain ⟨c, rfl⟩ := Int.eq_ofNat_of_zero_le (show 0 ≤ x by have := hin; unfold inR at this; simp at this; omega)
      have hc : c < d.sg.length := by have := hin; unfold inR at this; simp [Pl.Dg.n] at this; omega
      refine ⟨?_, ?_, ?_⟩
      · show (Pl.shrS [c] d.sg).sum = d.sg.sum + -(d.s c)
        rw [Pl.shrS_one d.sg hc]
        show _ - d.sg.getD c 0 = _ + -(d.sg.getD c 0)
        omega
      · show ((Pl.shrS [c] d.sg).length : Int) = d.sg.length + -1
        have := Pl.left_one hc
        rw [Pl.shrS_len]
        omega
      · show Sml (Pl.shrS [c] d.sg)
        exact shr_sml hs _
    · refine ⟨?_, ?_, ?_⟩
      · show (d.sg ++ [_, _]).sum = d.sg.sum + 0
        have := poke_signs d x y o
        simp
        omega
      · show ((d.sg ++ [_, _]).length : Int) = d.sg.length + 2
        simp
      · show Sml (d.sg ++ [_, _])
        refine sml_app hs (fun z hz => ?_)
        simp at hz
        rcases hz with rfl | rfl <;> exact sgn2_sml _ _
    · obtain ⟨a, rfl⟩ := Int.eq_ofNat_of_zero_le (show 0 ≤ x by have := hin; unfold inR at this; simp at this; omega)
      obtain ⟨b, rfl⟩ := Int.eq_ofNat_of_zero_le (show 0 ≤ y by have := hin; unfold inR at this; simp at this; omega)
      have hab : a < b ∧ b < d.n := by have := hin; unfold inR at this; simp at this; omega
      have h' : unpC d a b = 0 := h
      have eD : apD d ⟨4, (a : Int), (b : Int), s, o⟩ = unpD d a b := rfl
      cases hL : lensI d a b with
      | none => unfold unpC at h'; rw [hL] at h'; exact absurd (show (6 : Int) = 0 from h') (by decide)
      | some i =>
        have eS : (unpD d a b).sg = Pl.shrS [a, b] d.sg := by unfold unpD; rw [hL]; rfl
        obtain ⟨h1, h2, h3⟩ := lens_is hL
        have hi := lens_lt hL
        have hl : lnH a b i < 4 * d.n := by unfold lnH; split <;> omega
        have sg := Pl.lens_signs hd.wf hl h2 h3
        rw [h1] at sg
        have sab : d.s a + d.s b = 0 := by
          unfold lnH lnO at sg
          by_cases h4 : i < 4
          · rw [if_pos h4, if_pos h4, show (4 * a + i) / 4 = a by omega] at sg
            exact sg
          · rw [if_neg h4, if_neg h4, show (4 * b + i - 4) / 4 = b by omega] at sg
            omega
        have hb : b < d.sg.length := hab.2
        rw [eD, eS]
        refine ⟨?_, ?_, ?_⟩
        · show (Pl.shrS [a, b] d.sg).sum = d.sg.sum + 0
          rw [Pl.shrS_two d.sg hab.1 hb]
          unfold Pl.Dg.s at sab
          omega
        · show ((Pl.shrS [a, b] d.sg).length : Int) = d.sg.length + -2
          have := Pl.left_two hab.1 hb
          rw [Pl.shrS_len]
          omega
        · exact shr_sml hs _
    · refine ⟨?_, ?_, ?_⟩
      · show d.sg.sum = d.sg.sum + 0
        omega
      · show (d.sg.length : Int) = d.sg.length + 0
        omega
      · exact hs
  · unfold apC at h
    rw [if_neg hk, if_pos (Pl.vb_false hin)] at h
    exact absurd h (by decide)
end Go.Proofs.Ytghdiolnonejaaa
end

section
namespace Go.Proofs.Ytghdiolnonejaaa
open Go Go.RowKit
attribute [local go_sem ↓] Go.wp_at_zero Go.wp_at_succ
section
variable {P : Program} (w : World)
/-- A slice whose elements' cells are known. -/
def SrcAt (w : World) (A : Option Addr) (m : Nat) (xs : List Value) : Prop := xs.length = m * 5 ∧ (0 < m → ∃ b o, A = some ⟨b, o, none⟩ ∧ ∀ (j : Nat) u, xs[j]? = some u → w.cell? ⟨b, o + j, none⟩ = some u) ∧ ∀ u ∈ xs, u.oneCell' = true
theorem SrcAt.keep {w w' : World} {A : Option Addr} {m : Nat} {xs : List Value} (h : SrcAt w A m xs) (hb : Below w.heap.size w w') : SrcAt w' A m xs :=
  ⟨h.1, fun hp => let ⟨b, o, e, hc⟩ := h.2.1 hp; ⟨b, o, e, fun j u hu => cell_below (hc j u hu) hb⟩, h.2.2⟩
theorem mvs_one (ms : List Mv) : ∀ u ∈ mvs ms, u.oneCell' = true := by
  intro u hu
  unfold mvs at hu
  obtain ⟨m, _, hm⟩ := List.mem_flatMap.1 hu
  simp only [Mv.cells, List.mem_cons, List.not_mem_nil, or_false] at hm
  rcases hm with rfl | rfl | rfl | rfl | rfl <;> rfl
theorem MovesAt.src {w : World} {v : Value} {ms : List Mv} (h : MovesAt w v ms) : ∃ (A : Option Addr) (c : Nat), v = .slice A ms.length c ∧ SrcAt w A ms.length (mvs ms) := by
  obtain ⟨base, h⟩ := h
  obtain ⟨A, c, rfl⟩ := owns_slice h
  refine ⟨A, c, rfl, h.1, fun hp => ?_, mvs_one ms⟩
  obtain ⟨g, cap, e, _, hg⟩ := World.ownsRow.form h hp
  injection e with e1 _ _
  subst e1
  refine ⟨g, 0, rfl, fun j u hu => ?_⟩
  have hj : j < ms.length * 5 := by
    have := (List.getElem?_eq_some_iff.1 hu).1
    rw [mvs_len] at this
    exact this
  rw [Nat.zero_add, World.ownsRow.cellAt h j hj]
  exact hu
theorem run_append_src (base : Nat) (t ty e : TypeId) (i : TypeInfo) (z : Value) (bytes : Nat) (ht : P.underlying t = some (.slice e)) (hi : P.info? e = some i) (hz : i.zero = some z)
    (hsize : i.size = 5) (hby : i.bytes = bytes) (hzs : z.cells.size = 5)
    (v : Value) (n : Nat) (xs : List Value) (hown : w.ownsRow base e 5 v n xs)
    (A : Option Addr) (m c : Nat) (ys : List Value) (hin : SrcAt w A m ys)
    (h63 : n + m ≤ maxLen) (hbytes : (n + m) * bytes ≤ 140737488355328) (hbase : base ≤ w.heap.size) :
    ∃ v' w', (Builtin.append_ #[t, t] ty #[v, .slice A m c]).run P w = .ok v' w' ∧ w'.ownsRow base e 5 v' (n + m) (xs ++ ys) ∧ w.grownBy w' v.ownBlock := by
  have hl := hin.1
  rcases Nat.eq_zero_or_pos m with h0 | h0
  · subst h0
    obtain rfl : ys = [] := List.eq_nil_of_length_eq_zero (by omega)
    have hr : (Builtin.append_ #[t, t] ty #[v, .slice A 0 c]).run P w = .ok v w := by
      rcases hown.2 with ⟨rfl, rfl⟩ | ⟨g, cap, cur, rfl, _, _, hnc, _⟩
      · cases A <;> simp [Builtin.append_, run_underlying ht, sizeOf, typeInfo, hi, Builtin.lenOf, Builtin.firstCells, loadCells, loadCellsFrom]
      · cases A <;> simp [Builtin.append_, run_underlying ht, sizeOf, typeInfo, hi, Builtin.lenOf, Builtin.firstCells, hnc, storeCells, loadCells, loadCellsFrom]
    refine ⟨v, w, hr, by simpa using hown, ⟨rfl, rfl, rfl, Nat.le_refl _, fun _ _ _ => rfl⟩⟩
  · obtain ⟨b, o, rfl, hc⟩ := hin.2.1 h0
    obtain ⟨v', w', hr, h2, h3, _⟩ := run_append_own (P := P) w base t ty e i z 5 bytes ht hi hz hsize hby hzs (by omega) v n xs hown ⟨b, o, none⟩ m c ys hl (fun j u hu => by
      have : (⟨b, o, none⟩ : Addr).add j = ⟨b, o + j, none⟩ := by unfold Addr.add; split <;> simp_all
      rw [this]; exact hc j u hu) hin.2.2 h63 hbytes hbase
    exact ⟨v', w', hr, h2, h3⟩
theorem wp_append_src {o : Oper} {a : Act} {K : Act → World → Prop} {Q : Exit → Act → World → Prop} (s x : Operand) (t : TypeId)
    (ho : o.op = .call { callee := .builtin .append, args := #[s, x], argTypes := #[t, t] })
    (base : Nat) (e : TypeId) (i : TypeInfo) (z : Value) (bytes : Nat) (ht : P.underlying t = some (.slice e)) (hi : P.info? e = some i) (hz : i.zero = some z)
    (hsize : i.size = 5) (hby : i.bytes = bytes) (hzs : z.cells.size = 5)
    (v : Value) (n : Nat) (xs : List Value) (hs : a.eval s = v) (hown : w.ownsRow base e 5 v n xs)
    (A : Option Addr) (m c : Nat) (ys : List Value) (hx : a.eval x = .slice A m c) (hin : SrcAt w A m ys)
    (h63 : n + m ≤ maxLen) (hbytes : (n + m) * bytes ≤ 140737488355328) (hbase : base ≤ w.heap.size)
    (h : ∀ v' w', w'.ownsRow base e 5 v' (n + m) (xs ++ ys) → w.grownBy w' v.ownBlock → K (a.put o.dst v') w') : o.wp P a w K Q := by
  obtain ⟨v', w', hr, h2, h3⟩ := run_append_src (P := P) w base t o.type e i z bytes ht hi hz hsize hby hzs v n xs hown A m c ys hin h63 hbytes hbase
  unfold Oper.wp execOp
  simp only [ho, resolve, invoke, builtin, Sem.run_bind, Sem.run_pure, Result.andThen_ok, List.map_toArray, List.map_cons, List.map_nil, hs, hx, hr]
  exact h v' w' h2 h3
theorem wpList_append_src {ops : Array Oper} {rest : List Oper} {o : Oper} {a : Act} {Q : Exit → Act → World → Prop} (hgd : o.guard = none) (s x : Operand) (t : TypeId)
    (ho : o.op = .call { callee := .builtin .append, args := #[s, x], argTypes := #[t, t] })
    (base : Nat) (e : TypeId) (i : TypeInfo) (z : Value) (bytes : Nat) (ht : P.underlying t = some (.slice e)) (hi : P.info? e = some i) (hz : i.zero = some z)
    (hsize : i.size = 5) (hby : i.bytes = bytes) (hzs : z.cells.size = 5)
    (v : Value) (n : Nat) (xs : List Value) (hs : a.eval s = v) (hown : w.ownsRow base e 5 v n xs)
    (A : Option Addr) (m c : Nat) (ys : List Value) (hx : a.eval x = .slice A m c) (hin : SrcAt w A m ys)
    (h63 : n + m ≤ maxLen) (hbytes : (n + m) * bytes ≤ 140737488355328) (hbase : base ≤ w.heap.size)
    (h : ∀ v' w', w'.ownsRow base e 5 v' (n + m) (xs ++ ys) → w.grownBy w' v.ownBlock → wpList P ops Q rest (a.put o.dst v') w') : wpList P ops Q (o :: rest) a w :=
  wpList_plain hgd fun _ hK => wp_append_src w s x t ho base e i z bytes ht hi hz hsize hby hzs v n xs hs hown A m c ys hx hin h63 hbytes hbase fun v' w' h2 h3 => hK _ _ (h v' w' h2 h3)
end
def cuN (x : Int) : List Mv := [⟨1, x, 0, -1, false⟩, ⟨1, x, 0, -1, true⟩, ⟨1, x, 0, 1, false⟩, ⟨1, x, 0, 1, true⟩]
def cuC : Nat → List Mv
  | 0 => []
  | k + 1 => cuC k ++ cuN ((k : Int) - 1)
def unC : Nat → List Mv
  | 0 => []
  | k + 1 => unC k ++ [⟨2, k, 0, 0, false⟩]
def pkN (x y : Int) : Nat → List Mv
  | 0 => []
  | j + 1 => pkN x y j ++ [⟨3, x, y, (j : Int) - 1, false⟩, ⟨3, x, y, (j : Int) - 1, true⟩]
def pkNY (x : Int) : Nat → List Mv
  | 0 => []
  | k + 1 => pkNY x k ++ pkN x ((k : Int) - 2) 3
def pkNX (n : Nat) : Nat → List Mv
  | 0 => []
  | k + 1 => pkNX n k ++ pkNY ((k : Int) - 2) (4 * n + 2)
def upN (x : Nat) : Nat → List Mv
  | 0 => []
  | k + 1 => upN x k ++ (if x < k then [⟨4, x, k, 0, false⟩] else [])
def upNX (n : Nat) : Nat → List Mv
  | 0 => []
  | k + 1 => upNX n k ++ upN k n
/-- Those that can be applied. -/
noncomputable def sel (d : Pl.Dg) (l : List Mv) : List Mv := l.flatMap (fun m => one (apC d m) m)
theorem sel_nil (d : Pl.Dg) : sel d [] = [] := rfl
theorem sel_app (d : Pl.Dg) (l r : List Mv) : sel d (l ++ r) = sel d l ++ sel d r := by unfold sel; rw [List.flatMap_append]
theorem sel_cons (d : Pl.Dg) (m : Mv) (l : List Mv) : sel d (m :: l) = one (apC d m) m ++ sel d l := by unfold sel; rw [List.flatMap_cons]
theorem mem_one {c : Int} {m z : Mv} : z ∈ one c m ↔ z = m ∧ c = 0 := by
  unfold one
  split
  · rename_i h; simp [h]
  · rename_i h; simp [h]
theorem mem_sel {d : Pl.Dg} {l : List Mv} {z : Mv} : z ∈ sel d l ↔ z ∈ l ∧ apC d z = 0 := by
  unfold sel
  rw [List.mem_flatMap]
  constructor
  · rintro ⟨m, h1, h2⟩
    obtain ⟨rfl, h3⟩ := mem_one.1 h2
    exact ⟨h1, h3⟩
  · rintro ⟨h1, h2⟩
    exact ⟨z, h1, mem_one.2 ⟨rfl, h2⟩⟩
theorem sel_len (d : Pl.Dg) : ∀ l, (sel d l).length ≤ l.length
  | [] => Nat.le_refl _
  | m :: l => by
    have a := sel_len d l
    have b := one_len (apC d m) m
    rw [sel_cons, List.length_append, List.length_cons]
    omega
theorem apC_in {d : Pl.Dg} {m : Mv} (hk : 1 ≤ m.kind ∧ m.kind ≤ 5) (hin : inR d.n m) : apC d m = if m.kind = 1 then curlableC d m.x else if m.kind = 2 then uncC d m.x.toNat else if m.kind = 3 then pkQ d m.x m.y m.sign else if m.kind = 4 then unpC d m.x.toNat m.y.toNat else sldC d m.x.toNat := by
  unfold apC
  rw [if_neg (by omega), if_neg (by rw [Pl.vb_true hin]; decide)]
theorem apC_out {d : Pl.Dg} {m : Mv} (hk : 1 ≤ m.kind ∧ m.kind ≤ 5) (hin : ¬ inR d.n m) : apC d m = 2 := by
  unfold apC
  rw [if_neg (by omega), if_pos (Pl.vb_false hin)]
theorem cu_code {d : Pl.Dg} {x s : Int} {o : Bool} (hx : -1 ≤ x ∧ x < 4 * (d.n : Int)) (hs : s = 1 ∨ s = -1) : apC d ⟨1, x, 0, s, o⟩ = curlableC d x := by
  rw [apC_in (by simp) (by unfold inR; simp; omega)]
  simp
theorem un_code {d : Pl.Dg} {c : Nat} (hc : c < d.n) : apC d ⟨2, c, 0, 0, false⟩ = uncC d c := by
  rw [apC_in (by simp) (by unfold inR; simp; omega)]
  simp
theorem up_code {d : Pl.Dg} {x y : Nat} (hx : x < y) (hy : y < d.n) : apC d ⟨4, x, y, 0, false⟩ = unpC d x y := by
  rw [apC_in (by simp) (by unfold inR; simp; omega)]
  simp
theorem pk_code {d : Pl.Dg} {F P : List Nat} (hF : ∀ x y, x < 4 * d.n → y < 4 * d.n → (F.getD x 0 = F.getD y 0 ↔ Pl.Orb (Pl.nx d) x y)) (hP : ∀ x y, x < d.n → y < d.n → (P.getD x 0 = P.getD y 0 ↔ Pl.Comp d x y)) {x y s : Int} {o : Bool} (hx : x < 4 * d.n) (hy : y < 4 * d.n) : apC d ⟨3, x, y, s, o⟩ = pkA d F P x y s o := by
  unfold pkA
  by_cases hin : inR d.n ⟨3, x, y, s, o⟩
  · rw [apC_in (by simp) hin, if_pos (Pl.vb_true hin), pkC_eq hF hP hx hy]
    simp
  · rw [apC_out (by simp) hin, if_neg (by rw [Pl.vb_false hin]; decide)]
theorem cu_sel (d : Pl.Dg) : ∀ k, k ≤ 4 * d.n + 1 → cuL d k = sel d (cuC k)
  | 0, _ => rfl
  | k + 1, h => by
    show cuL d k ++ cuX d ((k : Int) - 1) = sel d (cuC k ++ cuN ((k : Int) - 1))
    rw [sel_app, cu_sel d k (by omega)]
    congr 1
    unfold cuX cuN
    simp only [sel_cons, sel_nil]
    rw [cu_code (by omega) (.inr rfl), cu_code (by omega) (.inr rfl), cu_code (by omega) (.inl rfl), cu_code (by omega) (.inl rfl)]
    simp
theorem un_sel (d : Pl.Dg) : ∀ k, k ≤ d.n → unL d k = sel d (unC k)
  | 0, _ => rfl
  | k + 1, h => by
    show unL d k ++ one (uncC d k) ⟨2, k, 0, 0, false⟩ = sel d (unC k ++ [⟨2, k, 0, 0, false⟩])
    rw [sel_app, un_sel d k (by omega), sel_cons, sel_nil, un_code (by omega), List.append_nil]
theorem upY_sel (d : Pl.Dg) (x : Nat) : ∀ k, k ≤ d.n → upY d x k = sel d (upN x k)
  | 0, _ => rfl
  | k + 1, h => by
    show upY d x k ++ (if x < k then one (unpC d x k) ⟨4, x, k, 0, false⟩ else []) = sel d (upN x k ++ (if x < k then [⟨4, x, k, 0, false⟩] else []))
    rw [sel_app, upY_sel d x k (by omega)]
    congr 1
    split
    · rename_i hx; rw [sel_cons, sel_nil, up_code hx (by omega), List.append_nil]
    · rfl
theorem up_sel (d : Pl.Dg) : ∀ k, upX d k = sel d (upNX d.n k)
  | 0 => rfl
  | k + 1 => by
    show upX d k ++ upY d k d.n = sel d (upNX d.n k ++ upN k d.n)
    rw [sel_app, up_sel d k, upY_sel d k d.n (Nat.le_refl _)]
section
variable {d : Pl.Dg} {F P : List Nat}
theorem pkS_sel (hF : ∀ x y, x < 4 * d.n → y < 4 * d.n → (F.getD x 0 = F.getD y 0 ↔ Pl.Orb (Pl.nx d) x y)) (hP : ∀ x y, x < d.n → y < d.n → (P.getD x 0 = P.getD y 0 ↔ Pl.Comp d x y)) {x y : Int} (hx : x < 4 * d.n) (hy : y < 4 * d.n) : ∀ k, pkS d F P x y k = sel d (pkN x y k)
  | 0 => rfl
  | k + 1 => by
    show pkS d F P x y k ++ (one (pkA d F P x y ((k : Int) - 1) false) ⟨3, x, y, (k : Int) - 1, false⟩ ++ one (pkA d F P x y ((k : Int) - 1) true) ⟨3, x, y, (k : Int) - 1, true⟩) = sel d (pkN x y k ++ [⟨3, x, y, (k : Int) - 1, false⟩, ⟨3, x, y, (k : Int) - 1, true⟩])
    rw [sel_app, pkS_sel hF hP hx hy k, sel_cons, sel_cons, sel_nil, pk_code hF hP hx hy, pk_code hF hP hx hy, List.append_nil]
theorem pkY_sel (hF : ∀ x y, x < 4 * d.n → y < 4 * d.n → (F.getD x 0 = F.getD y 0 ↔ Pl.Orb (Pl.nx d) x y)) (hP : ∀ x y, x < d.n → y < d.n → (P.getD x 0 = P.getD y 0 ↔ Pl.Comp d x y)) {x : Int} (hx : x < 4 * d.n) : ∀ k, k ≤ 4 * d.n + 2 → pkY d F P x k = sel d (pkNY x k)
  | 0, _ => rfl
  | k + 1, h => by
    show pkY d F P x k ++ pkS d F P x ((k : Int) - 2) 3 = sel d (pkNY x k ++ pkN x ((k : Int) - 2) 3)
    rw [sel_app, pkY_sel hF hP hx k (by omega), pkS_sel hF hP hx (by omega)]
theorem pkX_sel (hF : ∀ x y, x < 4 * d.n → y < 4 * d.n → (F.getD x 0 = F.getD y 0 ↔ Pl.Orb (Pl.nx d) x y)) (hP : ∀ x y, x < d.n → y < d.n → (P.getD x 0 = P.getD y 0 ↔ Pl.Comp d x y)) : ∀ k, k ≤ 4 * d.n + 2 → pkX d F P k = sel d (pkNX d.n k)
  | 0, _ => rfl
  | k + 1, h => by
    show pkX d F P k ++ pkY d F P ((k : Int) - 2) (4 * d.n + 2) = sel d (pkNX d.n k ++ pkNY ((k : Int) - 2) (4 * d.n + 2))
    rw [sel_app, pkX_sel hF hP k (by omega), pkY_sel hF hP (by omega) _ (Nat.le_refl _)]
end
theorem pkNY_kind {x : Int} : ∀ {k : Nat} {z : Mv}, z ∈ pkNY x k → z.kind = 3
  | 0, z, h => by cases h
  | k + 1, z, h => by
    have h : z ∈ pkNY x k ++ pkN x ((k : Int) - 2) 3 := h
    rw [List.mem_append] at h
    rcases h with h | h
    · exact pkNY_kind h
    · simp only [pkN, List.mem_append, List.mem_cons, List.not_mem_nil, or_false, false_or] at h
      rcases h with ((rfl | rfl) | rfl | rfl) | rfl | rfl <;> rfl
theorem pkNX_kind {n : Nat} : ∀ {k : Nat} {z : Mv}, z ∈ pkNX n k → z.kind = 3
  | 0, z, h => by cases h
  | k + 1, z, h => by
    have h : z ∈ pkNX n k ++ pkNY ((k : Int) - 2) (4 * n + 2) := h
    rw [List.mem_append] at h
    rcases h with h | h
    · exact pkNX_kind h
    · exact pkNY_kind h
theorem pk_full {d : Pl.Dg} (h : 64 < d.n + 2) (k : Nat) : sel d (pkNX d.n k) = [] := by
  refine List.eq_nil_iff_forall_not_mem.2 fun z hz => ?_
  obtain ⟨h1, h2⟩ := mem_sel.1 hz
  have hk := pkNX_kind h1
  by_cases hin : inR d.n z
  · rw [apC_in (by omega) hin, if_neg (by omega), if_neg (by omega), if_pos hk] at h2
    unfold pkQ at h2
    rw [if_pos h] at h2
    split at h2
    · cases h2
    · split at h2 <;> cases h2
  · rw [apC_out (by omega) hin] at h2
    cases h2
noncomputable def allL (d : Pl.Dg) : List Mv := sel d (cuC (4 * d.n + 1)) ++ sel d (unC d.n) ++ sel d (pkNX d.n (4 * d.n + 2)) ++ sel d (upNX d.n d.n) ++ slL d (4 * d.n)
end Go.Proofs.Ytghdiolnonejaaa
end
