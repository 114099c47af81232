/-
  The texts Xk, Xu, Xv, Xx in one.
-/
import Derived.Test.YtghdiolnonejaaaB15
import Derived.Test.YtghdiolnonejaaaB17
import Derived.Test.YtghdiolnonejaaaB19
import Derived.Test.YtghdiolnonejaaaB00
import Derived.Test.YtghdiolnonejaaaB02
import Derived.Test.YtghdiolnonejaaaB16
set_option linter.unusedVariables false
set_option linter.unusedSimpArgs false

section
namespace Go.Proofs.Ytghdiolnonejaaa
open Go Go.RowKit
attribute [local go_sem ↓] Go.wp_at_zero Go.wp_at_succ
set_option maxRecDepth 100000 in
set_option maxHeartbeats 4000000 in
theorem apply_5 (d : Pl.Dg) (hd : Pl.Valid d) (A B : Option Addr) (cp cq m : Nat) (x : Nat) (y s : Int) (o : Bool) (w : World) (hm : m = 4 * d.n) (hg : DgAt w A B d) (hin : inR d.n ⟨5, (x : Int), y, s, o⟩) :
    Calls Try.prog 23 #[.agg #[.slice A d.n cp, .slice B m cq, .int .i64 d.lp], (Mv.mk 5 (x : Int) y s o).v] w (ResC (sldC d x) (sldD d x) (sldI d x) w) := by
  have hn := hd.wf.few
  have hlp := hd.wf.lp
  have HM := hide hm
  have HG := hide hg
  have hm2 : m ≤ 256 := by omega
  clear hm hg
  have PB0 := hide (boxes4 w (.slice A d.n cp) (.slice B m cq) (.int .i64 (d.lp : Int)) (.int .i64 5) (.int .i64 (x : Int)) (.int .i64 y) (.int .i64 s) (.bool o))
  unfold W4 at PB0
  obtain ⟨x0, x1, x2, x3, b0, s0⟩ := PB0.out
  have X0 := hide x0
  have X1 := hide x1
  have X2 := hide x2
  have X3 := hide x3
  have B0 := hide b0
  have S0 := hide s0
  clear x0 x1 x2 x3 b0 s0 PB0
  unfold Mv.v
  go_enter Try.func23, Try.ntmps23
  go_wp2_with fail
  refine (valid_yes d hd A B cp cq m _ HM.out (HG.out.keep B0.out)).mono ?_
  rintro e w1 ⟨rfl, hb1⟩
  have Y0 := hide (X0.out.below hb1)
  have Y1 := hide (X1.out.below hb1)
  have Y2 := hide (X2.out.below hb1)
  have Y3 := hide (X3.out.below hb1)
  have B1 := hide (B0.out.trans (hb1.mono B0.out.size))
  have hsz1 : w.heap.size + 4 ≤ w1.heap.size := by have := hb1.size; have := S0.out; omega
  clear X0 X1 X2 X3 B0 S0 hb1
  obtain ⟨d0, d1, d2, d3⟩ := box3 Y0.out
  obtain ⟨m0, m1, m2, m3, m4, m5⟩ := box5 Y1.out
  go_wp2_with fail
  refine (inRange_5 d.n (x : Int) y s o w1 (by omega)).mono ?_
  rintro e w2 ⟨rfl, hb2⟩
  rw [Pl.vb_true hin]
  have hsz : w.heap.size + 4 ≤ w2.heap.size := by have := hb2.size; omega
  have AB2 := hide (show AB w w2.heap.size (w2.heap.size + 1) [.slice A d.n cp, .slice B m cq, .int .i64 (d.lp : Int)] [.int .i64 5, .int .i64 (x : Int), .int .i64 y, .int .i64 s, .bool o] ((w2.alloc (.cells #[.slice none 0 0, .slice none 0 0, .int .i64 0] 24)).alloc (.cells #[.int .i64 0, .int .i64 0, .int .i64 0, .int .i64 0, .bool false] 37)) from
    ⟨((Y0.out.below hb2).alloc _).alloc _, ((Y1.out.below hb2).alloc _).alloc _, ⟨_, ((Y2.out.below hb2).alloc _).alloc _, rfl⟩, ⟨_, ((Y3.out.below hb2).alloc _).alloc _, rfl⟩, ⟨_, (row_at (vs := [_, _, _]) rfl).alloc _, rfl⟩, ⟨_, row_at (vs := [_, _, _, _, _]) (by simp), rfl⟩, ((B1.out.trans (hb2.mono B1.out.size)).alloc (B1.out.trans (hb2.mono B1.out.size)).size _).alloc ((B1.out.trans (hb2.mono B1.out.size)).alloc (B1.out.trans (hb2.mono B1.out.size)).size _).size _, by omega, by omega, by omega⟩)
  obtain ⟨d0', d1', d2', d3'⟩ := box3 (Y0.out.below hb2)
  obtain ⟨m0', m1', m2', m3', m4', m5'⟩ := box5 (Y1.out.below hb2)
  clear d0 d1 d2 d3 m0 m1 m2 m3 m4 m5 Y0 Y1 Y2 Y3 B1 hb2 hsz1
  have z1 : w.heap.size < w2.heap.size := by omega
  have z2 : w.heap.size + 1 < w2.heap.size := by omega
  have hx : x < 4 * d.n := by have := hin; unfold inR at this; simp at this; omega
  have HG2 := hide (HG.out.keep AB2.out.bel)
  go_wp2_with fail
  obtain ⟨gr, hgr⟩ : ∃ g, g = w2.heap.size := ⟨_, rfl⟩
  obtain ⟨gi, hgi⟩ : ∃ g, g = w2.heap.size + 1 := ⟨_, rfl⟩
  rw [← hgi, ← hgr] at AB2
  rw [← hgi, ← hgr]
  clear hgr hgi
  refine (slide_any d hd.wf A B cp cq m x 5 y s o _ HM.out HG2.out hx).mono ?_
  intro e w3 hres
  have AB3 := hide (AB2.out.below hres.2.2)
  obtain ⟨cc, hcc⟩ : ∃ c, c = sldC d x := ⟨_, rfl⟩
  obtain ⟨rr, hrr⟩ : ∃ r, r = sldD d x := ⟨_, rfl⟩
  obtain ⟨mm, hmm⟩ : ∃ r, r = sldI d x := ⟨_, rfl⟩
  unfold SldPost at hres
  rw [← hcc, ← hrr, ← hmm] at hres
  have HCC := hide hcc
  have HRR := hide hrr
  have HMM := hide hmm
  clear hcc hrr hmm d0' d1' d2' d3' m0' m1' m2' m3' m4' m5' AB2 HG2
  by_cases hc : cc = 0
  · obtain ⟨A9, B9, c8, c9, k9, x9, y9, s9, o9, hmv, rfl, hT⟩ := ResOk.split (hres.2.1 hc)
    have HMV := hide hmv
    have HC := hide hc
    clear hmv hc
    have AD3 := hide (show AD w gr gi _ _ A9 B9 rr w3 from ⟨AB3.out, hT⟩)
    clear hT
    obtain ⟨N9, hN9⟩ : ∃ n, n = rr.n := ⟨_, rfl⟩
    obtain ⟨L9, hL9⟩ : ∃ n, n = rr.lp := ⟨_, rfl⟩
    rw [← hN9, ← hL9]
    have HN9 := hide hN9
    have HL9 := hide hL9
    clear hN9 hL9
    obtain ⟨_, r3, l3⟩ := AB3.out.r
    obtain ⟨_, r4, l4⟩ := AB3.out.i
    obtain ⟨_, r5, l5⟩ := AB3.out.rd
    obtain ⟨_, r6, l6⟩ := AB3.out.rm
    obtain ⟨e0, e1, e2, e3⟩ := cells3 r3 l3
    obtain ⟨f0, f1, f2, f3, f4, f5⟩ := cells5 r4 l4
    obtain ⟨g0, g1, g2, g3⟩ := cells3 r5 l5
    obtain ⟨h0, h1, h2, h3, h4, h5⟩ := cells5 r6 l6
    have y1 : gr ≠ w.heap.size + 1 + 1 := by have := AB3.out.lr; omega
    have y2 : gr ≠ w.heap.size + 1 + 1 + 1 := by have := AB3.out.lr; omega
    have y3 : gi ≠ w.heap.size + 1 + 1 := by have := AB3.out.li; omega
    have y4 : gi ≠ w.heap.size + 1 + 1 + 1 := by have := AB3.out.li; omega
    have y5 : gr ≠ gi := AB3.out.ne
    have y6 : w.heap.size + 1 + 1 ≠ w.heap.size + 1 + 1 + 1 := by omega
    clear r3 l3 r4 l4 r5 l5 r6 l6
    go_upto_region 22 with fail
    go_region
    go_wp2_with fail
    clear e0 e1 e2 e3 f0 f1 f2 f3 f4 f5 g0 g1 g2 g3 h0 h1 h2 h3 h4 h5
    have AD4 := hide ((((((((AD3.out.setR 0 (.slice A9 N9 c8)).setR 1 (.slice B9 (4 * N9) c9)).setR 2 (.int .i64 (L9 : Int))).setI 0 (.int .i64 k9)).setI 1 (.int .i64 x9)).setI 2 (.int .i64 y9)).setI 3 (.int .i64 s9)).setI 4 (.bool o9))
    obtain ⟨_, r5, l5⟩ := AD4.out.b.rd
    obtain ⟨_, r6, l6⟩ := AD4.out.b.rm
    refine bodyPost_ret (v := .tuple #[.agg #[.slice A9 N9 c8, .slice B9 (4 * N9) c9, .int .i64 (L9 : Int)], .agg #[.int .i64 k9, .int .i64 x9, .int .i64 y9, .int .i64 s9, .bool o9], .int .i64 0]) ?_ rfl ?_
    · obtain ⟨e0, e1, e2, e3, e4, e5, e6, e7⟩ := fin8 r5 r6 l5 l6 (by omega) (.slice A9 N9 c8) (.slice B9 (4 * N9) c9) (.int .i64 (L9 : Int)) (.int .i64 k9) (.int .i64 x9) (.int .i64 y9) (.int .i64 s9) (.bool o9)
      simp [results, Try.results23, go_sem, e0, e1, e2, e3, e4, e5, e6, e7]
    · have AD5 := (((((((AD4.out.setD 0 (.slice A9 N9 c8)).setD 1 (.slice B9 (4 * N9) c9)).setD 2 (.int .i64 (L9 : Int))).setM 0 (.int .i64 k9)).setM 1 (.int .i64 x9)).setM 2 (.int .i64 y9)).setM 3 (.int .i64 s9)).setM 4 (.bool o9)
      rw [← HCC.out, ← HRR.out, ← HMM.out]
      refine ⟨fun h => absurd HC.out h, fun _ => ⟨A9, B9, c8, c9, by rw [HMV.out, ← HN9.out, ← HL9.out]; rfl, AD5.drew.t⟩, AD5.drew.b.bel⟩
  · have HC := hide hc
    have hE := ResErr.split (hres.1 hc)
    subst hE
    have t1 : (cc != 0) = true := by rw [bne_iff_ne]; exact hc
    clear hc
    obtain ⟨_, r3, l3⟩ := AB3.out.r
    obtain ⟨_, r4, l4⟩ := AB3.out.i
    obtain ⟨_, r5, l5⟩ := AB3.out.rd
    obtain ⟨_, r6, l6⟩ := AB3.out.rm
    obtain ⟨e0, e1, e2, e3⟩ := cells3 r3 l3
    obtain ⟨f0, f1, f2, f3, f4, f5⟩ := cells5 r4 l4
    obtain ⟨g0, g1, g2, g3⟩ := cells3 r5 l5
    obtain ⟨h0, h1, h2, h3, h4, h5⟩ := cells5 r6 l6
    have y1 : gr ≠ w.heap.size + 1 + 1 := by have := AB3.out.lr; omega
    have y2 : gr ≠ w.heap.size + 1 + 1 + 1 := by have := AB3.out.lr; omega
    have y3 : gi ≠ w.heap.size + 1 + 1 := by have := AB3.out.li; omega
    have y4 : gi ≠ w.heap.size + 1 + 1 + 1 := by have := AB3.out.li; omega
    have y5 : gr ≠ gi := AB3.out.ne
    have y6 : w.heap.size + 1 + 1 ≠ w.heap.size + 1 + 1 + 1 := by omega
    clear r3 l3 r4 l4 r5 l5 r6 l6
    go_wp2
    clear e0 e1 e2 e3 f0 f1 f2 f3 f4 f5 g0 g1 g2 g3 h0 h1 h2 h3 h4 h5
    have AB4 := (((((((AB3.out.setR 0 (.slice none 0 0)).setR 1 (.slice none 0 0)).setR 2 (.int .i64 0)).setI 0 (.int .i64 0)).setI 1 (.int .i64 0)).setI 2 (.int .i64 0)).setI 3 (.int .i64 0)).setI 4 (.bool false)
    obtain ⟨_, r5, l5⟩ := AB4.rd
    obtain ⟨_, r6, l6⟩ := AB4.rm
    refine bodyPost_ret (v := .tuple #[nilD, nilM, .int .i64 cc]) ?_ rfl ?_
    · obtain ⟨e0, e1, e2, e3, e4, e5, e6, e7⟩ := fin8 r5 r6 l5 l6 (by omega) (.slice none 0 0) (.slice none 0 0) (.int .i64 0) (.int .i64 0) (.int .i64 0) (.int .i64 0) (.int .i64 0) (.bool false)
      unfold nilD nilM
      simp [results, Try.results23, go_sem, e0, e1, e2, e3, e4, e5, e6, e7]
    · rw [← HCC.out, ← HRR.out, ← HMM.out]
      exact ⟨fun _ => (show ResErr _ _ from rfl), fun h => absurd h HC.out, below8 AB4.bel _ _ _ _ _ _ _ _⟩
set_option maxRecDepth 100000 in
set_option maxHeartbeats 2000000 in
theorem apply_r1 (d : Pl.Dg) (hd : Pl.Valid d) (A B : Option Addr) (cp cq m : Nat) (x y s : Int) (o : Bool) (w : World) (hm : m = 4 * d.n) (hg : DgAt w A B d) (hin : ¬ inR d.n ⟨1, x, y, s, o⟩) :
    Calls Try.prog 23 #[.agg #[.slice A d.n cp, .slice B m cq, .int .i64 d.lp], (Mv.mk 1 x y s o).v] w fun e w' => ResErr 2 e ∧ Below w.heap.size w w' := by
  have hn := hd.wf.few
  have hlp := hd.wf.lp
  have HM := hide hm
  have HG := hide hg
  have hm2 : m ≤ 256 := by omega
  clear hm hg
  have PB0 := hide (boxes4 w (.slice A d.n cp) (.slice B m cq) (.int .i64 (d.lp : Int)) (.int .i64 1) (.int .i64 x) (.int .i64 y) (.int .i64 s) (.bool o))
  unfold W4 at PB0
  obtain ⟨x0, x1, x2, x3, b0, s0⟩ := PB0.out
  have X0 := hide x0
  have X1 := hide x1
  have X2 := hide x2
  have X3 := hide x3
  have B0 := hide b0
  have S0 := hide s0
  clear x0 x1 x2 x3 b0 s0 PB0
  unfold Mv.v
  go_enter Try.func23, Try.ntmps23
  go_wp2_with fail
  refine (valid_yes d hd A B cp cq m _ HM.out (HG.out.keep B0.out)).mono ?_
  rintro e w1 ⟨rfl, hb1⟩
  have Y0 := hide (X0.out.below hb1)
  have Y1 := hide (X1.out.below hb1)
  have Y2 := hide (X2.out.below hb1)
  have Y3 := hide (X3.out.below hb1)
  have B1 := hide (B0.out.trans (hb1.mono B0.out.size))
  have hsz1 : w.heap.size + 4 ≤ w1.heap.size := by have := hb1.size; have := S0.out; omega
  clear X0 X1 X2 X3 B0 S0 hb1
  obtain ⟨d0, d1, d2, d3⟩ := box3 Y0.out
  obtain ⟨m0, m1, m2, m3, m4, m5⟩ := box5 Y1.out
  go_wp2_with fail
  refine (inRange_1 d.n x y s o w1 (by omega)).mono ?_
  rintro e w2 ⟨rfl, hb2⟩
  rw [Pl.vb_false hin]
  have Z2 := hide (Y2.out.below hb2)
  have Z3 := hide (Y3.out.below hb2)
  have B2 := hide (B1.out.trans (hb2.mono B1.out.size))
  clear d0 d1 d2 d3 m0 m1 m2 m3 m4 m5 Y0 Y1 Y2 Y3 B1 hb2
  obtain ⟨p0, p1, p2, p3⟩ := box3 Z2.out
  obtain ⟨q0, q1, q2, q3, q4, q5⟩ := box5 Z3.out
  go_wp2
  refine bodyPost_ret (v := .tuple #[nilD, nilM, .int .i64 2]) ?_ rfl ?_
  · obtain ⟨e0, e1, e2, e3, e4, e5, e6, e7⟩ := fin8 (Z2.out) (Z3.out) rfl rfl (by omega) (.slice none 0 0) (.slice none 0 0) (.int .i64 0) (.int .i64 0) (.int .i64 0) (.int .i64 0) (.int .i64 0) (.bool false)
    unfold nilD nilM
    simp [results, Try.results23, go_sem, e0, e1, e2, e3, e4, e5, e6, e7]
  · exact ⟨(show ResErr _ _ from rfl), below8 B2.out _ _ _ _ _ _ _ _⟩
set_option maxRecDepth 100000 in
set_option maxHeartbeats 2000000 in
theorem apply_r2 (d : Pl.Dg) (hd : Pl.Valid d) (A B : Option Addr) (cp cq m : Nat) (x y s : Int) (o : Bool) (w : World) (hm : m = 4 * d.n) (hg : DgAt w A B d) (hin : ¬ inR d.n ⟨2, x, y, s, o⟩) :
    Calls Try.prog 23 #[.agg #[.slice A d.n cp, .slice B m cq, .int .i64 d.lp], (Mv.mk 2 x y s o).v] w fun e w' => ResErr 2 e ∧ Below w.heap.size w w' := by
  have hn := hd.wf.few
  have hlp := hd.wf.lp
  have HM := hide hm
  have HG := hide hg
  have hm2 : m ≤ 256 := by omega
  clear hm hg
  have PB0 := hide (boxes4 w (.slice A d.n cp) (.slice B m cq) (.int .i64 (d.lp : Int)) (.int .i64 2) (.int .i64 x) (.int .i64 y) (.int .i64 s) (.bool o))
  unfold W4 at PB0
  obtain ⟨x0, x1, x2, x3, b0, s0⟩ := PB0.out
  have X0 := hide x0
  have X1 := hide x1
  have X2 := hide x2
  have X3 := hide x3
  have B0 := hide b0
  have S0 := hide s0
  clear x0 x1 x2 x3 b0 s0 PB0
  unfold Mv.v
  go_enter Try.func23, Try.ntmps23
  go_wp2_with fail
  refine (valid_yes d hd A B cp cq m _ HM.out (HG.out.keep B0.out)).mono ?_
  rintro e w1 ⟨rfl, hb1⟩
  have Y0 := hide (X0.out.below hb1)
  have Y1 := hide (X1.out.below hb1)
  have Y2 := hide (X2.out.below hb1)
  have Y3 := hide (X3.out.below hb1)
  have B1 := hide (B0.out.trans (hb1.mono B0.out.size))
  have hsz1 : w.heap.size + 4 ≤ w1.heap.size := by have := hb1.size; have := S0.out; omega
  clear X0 X1 X2 X3 B0 S0 hb1
  obtain ⟨d0, d1, d2, d3⟩ := box3 Y0.out
  obtain ⟨m0, m1, m2, m3, m4, m5⟩ := box5 Y1.out
  go_wp2_with fail
  refine (inRange_2 d.n x y s o w1 (by omega)).mono ?_
  rintro e w2 ⟨rfl, hb2⟩
  rw [Pl.vb_false hin]
  have Z2 := hide (Y2.out.below hb2)
  have Z3 := hide (Y3.out.below hb2)
  have B2 := hide (B1.out.trans (hb2.mono B1.out.size))
  clear d0 d1 d2 d3 m0 m1 m2 m3 m4 m5 Y0 Y1 Y2 Y3 B1 hb2
  obtain ⟨p0, p1, p2, p3⟩ := box3 Z2.out
  obtain ⟨q0, q1, q2, q3, q4, q5⟩ := box5 Z3.out
  go_wp2
  refine bodyPost_ret (v := .tuple #[nilD, nilM, .int .i64 2]) ?_ rfl ?_
  · obtain ⟨e0, e1, e2, e3, e4, e5, e6, e7⟩ := fin8 (Z2.out) (Z3.out) rfl rfl (by omega) (.slice none 0 0) (.slice none 0 0) (.int .i64 0) (.int .i64 0) (.int .i64 0) (.int .i64 0) (.int .i64 0) (.bool false)
    unfold nilD nilM
    simp [results, Try.results23, go_sem, e0, e1, e2, e3, e4, e5, e6, e7]
  · exact ⟨(show ResErr _ _ from rfl), below8 B2.out _ _ _ _ _ _ _ _⟩
set_option maxRecDepth 100000 in
set_option maxHeartbeats 2000000 in
theorem apply_r3 (d : Pl.Dg) (hd : Pl.Valid d) (A B : Option Addr) (cp cq m : Nat) (x y s : Int) (o : Bool) (w : World) (hm : m = 4 * d.n) (hg : DgAt w A B d) (hin : ¬ inR d.n ⟨3, x, y, s, o⟩) :
    Calls Try.prog 23 #[.agg #[.slice A d.n cp, .slice B m cq, .int .i64 d.lp], (Mv.mk 3 x y s o).v] w fun e w' => ResErr 2 e ∧ Below w.heap.size w w' := by
  have hn := hd.wf.few
  have hlp := hd.wf.lp
  have HM := hide hm
  have HG := hide hg
  have hm2 : m ≤ 256 := by omega
  clear hm hg
  have PB0 := hide (boxes4 w (.slice A d.n cp) (.slice B m cq) (.int .i64 (d.lp : Int)) (.int .i64 3) (.int .i64 x) (.int .i64 y) (.int .i64 s) (.bool o))
  unfold W4 at PB0
  obtain ⟨x0, x1, x2, x3, b0, s0⟩ := PB0.out
  have X0 := hide x0
  have X1 := hide x1
  have X2 := hide x2
  have X3 := hide x3
  have B0 := hide b0
  have S0 := hide s0
  clear x0 x1 x2 x3 b0 s0 PB0
  unfold Mv.v
  go_enter Try.func23, Try.ntmps23
  go_wp2_with fail
  refine (valid_yes d hd A B cp cq m _ HM.out (HG.out.keep B0.out)).mono ?_
  rintro e w1 ⟨rfl, hb1⟩
  have Y0 := hide (X0.out.below hb1)
  have Y1 := hide (X1.out.below hb1)
  have Y2 := hide (X2.out.below hb1)
  have Y3 := hide (X3.out.below hb1)
  have B1 := hide (B0.out.trans (hb1.mono B0.out.size))
  have hsz1 : w.heap.size + 4 ≤ w1.heap.size := by have := hb1.size; have := S0.out; omega
  clear X0 X1 X2 X3 B0 S0 hb1
  obtain ⟨d0, d1, d2, d3⟩ := box3 Y0.out
  obtain ⟨m0, m1, m2, m3, m4, m5⟩ := box5 Y1.out
  go_wp2_with fail
  refine (inRange_3 d.n x y s o w1 (by omega)).mono ?_
  rintro e w2 ⟨rfl, hb2⟩
  rw [Pl.vb_false hin]
  have Z2 := hide (Y2.out.below hb2)
  have Z3 := hide (Y3.out.below hb2)
  have B2 := hide (B1.out.trans (hb2.mono B1.out.size))
  clear d0 d1 d2 d3 m0 m1 m2 m3 m4 m5 Y0 Y1 Y2 Y3 B1 hb2
  obtain ⟨p0, p1, p2, p3⟩ := box3 Z2.out
  obtain ⟨q0, q1, q2, q3, q4, q5⟩ := box5 Z3.out
  go_wp2
  refine bodyPost_ret (v := .tuple #[nilD, nilM, .int .i64 2]) ?_ rfl ?_
  · obtain ⟨e0, e1, e2, e3, e4, e5, e6, e7⟩ := fin8 (Z2.out) (Z3.out) rfl rfl (by omega) (.slice none 0 0) (.slice none 0 0) (.int .i64 0) (.int .i64 0) (.int .i64 0) (.int .i64 0) (.int .i64 0) (.bool false)
    unfold nilD nilM
    simp [results, Try.results23, go_sem, e0, e1, e2, e3, e4, e5, e6, e7]
  · exact ⟨(show ResErr _ _ from rfl), below8 B2.out _ _ _ _ _ _ _ _⟩
set_option maxRecDepth 100000 in
set_option maxHeartbeats 2000000 in
theorem apply_r4 (d : Pl.Dg) (hd : Pl.Valid d) (A B : Option Addr) (cp cq m : Nat) (x y s : Int) (o : Bool) (w : World) (hm : m = 4 * d.n) (hg : DgAt w A B d) (hin : ¬ inR d.n ⟨4, x, y, s, o⟩) :
    Calls Try.prog 23 #[.agg #[.slice A d.n cp, .slice B m cq, .int .i64 d.lp], (Mv.mk 4 x y s o).v] w fun e w' => ResErr 2 e ∧ Below w.heap.size w w' := by
  have hn := hd.wf.few
  have hlp := hd.wf.lp
  have HM := hide hm
  have HG := hide hg
  have hm2 : m ≤ 256 := by omega
  clear hm hg
  have PB0 := hide (boxes4 w (.slice A d.n cp) (.slice B m cq) (.int .i64 (d.lp : Int)) (.int .i64 4) (.int .i64 x) (.int .i64 y) (.int .i64 s) (.bool o))
  unfold W4 at PB0
  obtain ⟨x0, x1, x2, x3, b0, s0⟩ := PB0.out
  have X0 := hide x0
  have X1 := hide x1
  have X2 := hide x2
  have X3 := hide x3
  have B0 := hide b0
  have S0 := hide s0
  clear x0 x1 x2 x3 b0 s0 PB0
  unfold Mv.v
  go_enter Try.func23, Try.ntmps23
  go_wp2_with fail
  refine (valid_yes d hd A B cp cq m _ HM.out (HG.out.keep B0.out)).mono ?_
  rintro e w1 ⟨rfl, hb1⟩
  have Y0 := hide (X0.out.below hb1)
  have Y1 := hide (X1.out.below hb1)
  have Y2 := hide (X2.out.below hb1)
  have Y3 := hide (X3.out.below hb1)
  have B1 := hide (B0.out.trans (hb1.mono B0.out.size))
  have hsz1 : w.heap.size + 4 ≤ w1.heap.size := by have := hb1.size; have := S0.out; omega
  clear X0 X1 X2 X3 B0 S0 hb1
  obtain ⟨d0, d1, d2, d3⟩ := box3 Y0.out
  obtain ⟨m0, m1, m2, m3, m4, m5⟩ := box5 Y1.out
  go_wp2_with fail
  refine (inRange_4 d.n x y s o w1 (by omega)).mono ?_
  rintro e w2 ⟨rfl, hb2⟩
  rw [Pl.vb_false hin]
  have Z2 := hide (Y2.out.below hb2)
  have Z3 := hide (Y3.out.below hb2)
  have B2 := hide (B1.out.trans (hb2.mono B1.out.size))
  clear d0 d1 d2 d3 m0 m1 m2 m3 m4 m5 Y0 Y1 Y2 Y3 B1 hb2
  obtain ⟨p0, p1, p2, p3⟩ := box3 Z2.out
  obtain ⟨q0, q1, q2, q3, q4, q5⟩ := box5 Z3.out
  go_wp2
  refine bodyPost_ret (v := .tuple #[nilD, nilM, .int .i64 2]) ?_ rfl ?_
  · obtain ⟨e0, e1, e2, e3, e4, e5, e6, e7⟩ := fin8 (Z2.out) (Z3.out) rfl rfl (by omega) (.slice none 0 0) (.slice none 0 0) (.int .i64 0) (.int .i64 0) (.int .i64 0) (.int .i64 0) (.int .i64 0) (.bool false)
    unfold nilD nilM
    simp [results, Try.results23, go_sem, e0, e1, e2, e3, e4, e5, e6, e7]
  · exact ⟨(show ResErr _ _ from rfl), below8 B2.out _ _ _ _ _ _ _ _⟩
set_option maxRecDepth 100000 in
set_option maxHeartbeats 2000000 in
theorem apply_r5 (d : Pl.Dg) (hd : Pl.Valid d) (A B : Option Addr) (cp cq m : Nat) (x y s : Int) (o : Bool) (w : World) (hm : m = 4 * d.n) (hg : DgAt w A B d) (hin : ¬ inR d.n ⟨5, x, y, s, o⟩) :
    Calls Try.prog 23 #[.agg #[.slice A d.n cp, .slice B m cq, .int .i64 d.lp], (Mv.mk 5 x y s o).v] w fun e w' => ResErr 2 e ∧ Below w.heap.size w w' := by
  have hn := hd.wf.few
  have hlp := hd.wf.lp
  have HM := hide hm
  have HG := hide hg
  have hm2 : m ≤ 256 := by omega
  clear hm hg
  have PB0 := hide (boxes4 w (.slice A d.n cp) (.slice B m cq) (.int .i64 (d.lp : Int)) (.int .i64 5) (.int .i64 x) (.int .i64 y) (.int .i64 s) (.bool o))
  unfold W4 at PB0
  obtain ⟨x0, x1, x2, x3, b0, s0⟩ := PB0.out
  have X0 := hide x0
  have X1 := hide x1
  have X2 := hide x2
  have X3 := hide x3
  have B0 := hide b0
  have S0 := hide s0
  clear x0 x1 x2 x3 b0 s0 PB0
  unfold Mv.v
  go_enter Try.func23, Try.ntmps23
  go_wp2_with fail
  refine (valid_yes d hd A B cp cq m _ HM.out (HG.out.keep B0.out)).mono ?_
  rintro e w1 ⟨rfl, hb1⟩
  have Y0 := hide (X0.out.below hb1)
  have Y1 := hide (X1.out.below hb1)
  have Y2 := hide (X2.out.below hb1)
  have Y3 := hide (X3.out.below hb1)
  have B1 := hide (B0.out.trans (hb1.mono B0.out.size))
  have hsz1 : w.heap.size + 4 ≤ w1.heap.size := by have := hb1.size; have := S0.out; omega
  clear X0 X1 X2 X3 B0 S0 hb1
  obtain ⟨d0, d1, d2, d3⟩ := box3 Y0.out
  obtain ⟨m0, m1, m2, m3, m4, m5⟩ := box5 Y1.out
  go_wp2_with fail
  refine (inRange_5 d.n x y s o w1 (by omega)).mono ?_
  rintro e w2 ⟨rfl, hb2⟩
  rw [Pl.vb_false hin]
  have Z2 := hide (Y2.out.below hb2)
  have Z3 := hide (Y3.out.below hb2)
  have B2 := hide (B1.out.trans (hb2.mono B1.out.size))
  clear d0 d1 d2 d3 m0 m1 m2 m3 m4 m5 Y0 Y1 Y2 Y3 B1 hb2
  obtain ⟨p0, p1, p2, p3⟩ := box3 Z2.out
  obtain ⟨q0, q1, q2, q3, q4, q5⟩ := box5 Z3.out
  go_wp2
  refine bodyPost_ret (v := .tuple #[nilD, nilM, .int .i64 2]) ?_ rfl ?_
  · obtain ⟨e0, e1, e2, e3, e4, e5, e6, e7⟩ := fin8 (Z2.out) (Z3.out) rfl rfl (by omega) (.slice none 0 0) (.slice none 0 0) (.int .i64 0) (.int .i64 0) (.int .i64 0) (.int .i64 0) (.int .i64 0) (.bool false)
    unfold nilD nilM
    simp [results, Try.results23, go_sem, e0, e1, e2, e3, e4, e5, e6, e7]
  · exact ⟨(show ResErr _ _ from rfl), below8 B2.out _ _ _ _ _ _ _ _⟩
set_option maxRecDepth 100000 in
set_option maxHeartbeats 2000000 in
theorem apply_k (d : Pl.Dg) (hd : Pl.Valid d) (A B : Option Addr) (cp cq m : Nat) (k x y s : Int) (o : Bool) (w : World) (hm : m = 4 * d.n) (hg : DgAt w A B d) (hk : k < 1 ∨ 5 < k) :
    Calls Try.prog 23 #[.agg #[.slice A d.n cp, .slice B m cq, .int .i64 d.lp], (Mv.mk k x y s o).v] w fun e w' => ResErr 11 e ∧ Below w.heap.size w w' := by
  have hn := hd.wf.few
  have hlp := hd.wf.lp
  have HM := hide hm
  have HG := hide hg
  have hm2 : m ≤ 256 := by omega
  clear hm hg
  have PB0 := hide (boxes4 w (.slice A d.n cp) (.slice B m cq) (.int .i64 (d.lp : Int)) (.int .i64 k) (.int .i64 x) (.int .i64 y) (.int .i64 s) (.bool o))
  unfold W4 at PB0
  obtain ⟨x0, x1, x2, x3, b0, s0⟩ := PB0.out
  have X0 := hide x0
  have X1 := hide x1
  have X2 := hide x2
  have X3 := hide x3
  have B0 := hide b0
  have S0 := hide s0
  clear x0 x1 x2 x3 b0 s0 PB0
  unfold Mv.v
  go_enter Try.func23, Try.ntmps23
  go_wp2_with fail
  refine (valid_yes d hd A B cp cq m _ HM.out (HG.out.keep B0.out)).mono ?_
  rintro e w1 ⟨rfl, hb1⟩
  have Y0 := hide (X0.out.below hb1)
  have Y1 := hide (X1.out.below hb1)
  have Y2 := hide (X2.out.below hb1)
  have Y3 := hide (X3.out.below hb1)
  have B1 := hide (B0.out.trans (hb1.mono B0.out.size))
  have hsz1 : w.heap.size + 4 ≤ w1.heap.size := by have := hb1.size; have := S0.out; omega
  clear X0 X1 X2 X3 B0 S0 hb1
  obtain ⟨d0, d1, d2, d3⟩ := box3 Y0.out
  obtain ⟨m0, m1, m2, m3, m4, m5⟩ := box5 Y1.out
  obtain ⟨p0, p1, p2, p3⟩ := box3 Y2.out
  obtain ⟨q0, q1, q2, q3, q4, q5⟩ := box5 Y3.out
  by_cases h1 : k < 1
  · go_wp2
    refine bodyPost_ret (v := .tuple #[nilD, nilM, .int .i64 11]) ?_ rfl ?_
    · obtain ⟨e0, e1, e2, e3, e4, e5, e6, e7⟩ := fin8 (Y2.out) (Y3.out) rfl rfl (by omega) (.slice none 0 0) (.slice none 0 0) (.int .i64 0) (.int .i64 0) (.int .i64 0) (.int .i64 0) (.int .i64 0) (.bool false)
      unfold nilD nilM
      simp [results, Try.results23, go_sem, e0, e1, e2, e3, e4, e5, e6, e7]
    · exact ⟨(show ResErr _ _ from rfl), below8 B1.out _ _ _ _ _ _ _ _⟩
  · have h2 : 5 < k := by omega
    go_wp2
    refine bodyPost_ret (v := .tuple #[nilD, nilM, .int .i64 11]) ?_ rfl ?_
    · obtain ⟨e0, e1, e2, e3, e4, e5, e6, e7⟩ := fin8 (Y2.out) (Y3.out) rfl rfl (by omega) (.slice none 0 0) (.slice none 0 0) (.int .i64 0) (.int .i64 0) (.int .i64 0) (.int .i64 0) (.int .i64 0) (.bool false)
      unfold nilD nilM
      simp [results, Try.results23, go_sem, e0, e1, e2, e3, e4, e5, e6, e7]
    · exact ⟨(show ResErr _ _ from rfl), below8 B1.out _ _ _ _ _ _ _ _⟩
/-- What Apply answers at a valid diagram: the code, the diagram, the inverse. -/
noncomputable def apC (d : Pl.Dg) (m : Mv) : Int :=
  if m.kind < 1 ∨ 5 < m.kind then 11 else if Pl.vb (inR d.n m) = false then 2 else if m.kind = 1 then curlableC d m.x else if m.kind = 2 then uncC d m.x.toNat else if m.kind = 3 then pkQ d m.x m.y m.sign else if m.kind = 4 then unpC d m.x.toNat m.y.toNat else sldC d m.x.toNat
def apD (d : Pl.Dg) (m : Mv) : Pl.Dg :=
  if m.kind = 1 then crl d m.x m.sign m.over else if m.kind = 2 then unD d m.x.toNat else if m.kind = 3 then pkD d m.x m.y m.sign m.over else if m.kind = 4 then unpD d m.x.toNat m.y.toNat else sldD d m.x.toNat
def apI (d : Pl.Dg) (m : Mv) : Mv :=
  if m.kind = 1 then ⟨2, d.n, 0, 0, false⟩ else if m.kind = 2 then unI d m.x.toNat else if m.kind = 3 then ⟨4, d.n, d.n + 1, 0, false⟩ else if m.kind = 4 then unpI d m.x.toNat m.y.toNat else sldI d m.x.toNat
theorem resC_err {c : Int} {r : Pl.Dg} {mv : Mv} {w : World} {e : Ending} {w' : World} (hc : c ≠ 0) (h : ResErr c e ∧ Below w.heap.size w w') : ResC c r mv w e w' := ⟨fun _ => h.1, fun h0 => absurd h0 hc, h.2⟩
theorem apply_any (d : Pl.Dg) (hd : Pl.Valid d) (A B : Option Addr) (cp cq m : Nat) (mv : Mv) (w : World) (hm : m = 4 * d.n) (hg : DgAt w A B d) :
    Calls Try.prog 23 #[.agg #[.slice A d.n cp, .slice B m cq, .int .i64 d.lp], mv.v] w (ResC (apC d mv) (apD d mv) (apI d mv) w) := by
  obtain ⟨k, x, y, s, o⟩ := mv
  by_cases hk : k < 1 ∨ 5 < k
  · have e : apC d ⟨k, x, y, s, o⟩ = 11 := by unfold apC; rw [if_pos hk]
    rw [e]
    exact (apply_k d hd A B cp cq m k x y s o w hm hg hk).mono fun e w' h => resC_err (by decide) h
  · by_cases hin : inR d.n ⟨k, x, y, s, o⟩
    · have hv : ¬ (Pl.vb (inR d.n ⟨k, x, y, s, o⟩) = false) := by rw [Pl.vb_true hin]; decide
      have e0 : apC d ⟨k, x, y, s, o⟩ = if k = 1 then curlableC d x else if k = 2 then uncC d x.toNat else if k = 3 then pkQ d x y s else if k = 4 then unpC d x.toNat y.toNat else sldC d x.toNat := by unfold apC; rw [if_neg hk, if_neg hv]
      have hk5 : k = 1 ∨ k = 2 ∨ k = 3 ∨ k = 4 ∨ k = 5 := by omega
      rcases hk5 with rfl | rfl | rfl | rfl | rfl
      · rw [e0]
        exact apply_1 d hd A B cp cq m x y s o w hm hg hin
      · obtain ⟨c, rfl⟩ := Int.eq_ofNat_of_zero_le (show 0 ≤ x by have := hin; unfold inR at this; simp at this; omega)
        rw [e0]
        exact apply_2 d hd A B cp cq m c y s o w hm hg hin
      · rw [e0]
        exact apply_3 d hd A B cp cq m x y s o w hm hg hin
      · obtain ⟨c, rfl⟩ := Int.eq_ofNat_of_zero_le (show 0 ≤ x by have := hin; unfold inR at this; simp at this; omega)
        obtain ⟨c', rfl⟩ := Int.eq_ofNat_of_zero_le (show 0 ≤ y by have := hin; unfold inR at this; simp at this; omega)
        rw [e0]
        exact apply_4 d hd A B cp cq m c c' s o w hm hg hin
      · obtain ⟨c, rfl⟩ := Int.eq_ofNat_of_zero_le (show 0 ≤ x by have := hin; unfold inR at this; simp at this; omega)
        rw [e0]
        exact apply_5 d hd A B cp cq m c y s o w hm hg hin
    · have e : apC d ⟨k, x, y, s, o⟩ = 2 := by unfold apC; rw [if_neg hk, if_pos (Pl.vb_false hin)]
      rw [e]
      have hk5 : k = 1 ∨ k = 2 ∨ k = 3 ∨ k = 4 ∨ k = 5 := by omega
      rcases hk5 with rfl | rfl | rfl | rfl | rfl
      · exact (apply_r1 d hd A B cp cq m x y s o w hm hg hin).mono fun e w' h => resC_err (by decide) h
      · exact (apply_r2 d hd A B cp cq m x y s o w hm hg hin).mono fun e w' h => resC_err (by decide) h
      · exact (apply_r3 d hd A B cp cq m x y s o w hm hg hin).mono fun e w' h => resC_err (by decide) h
      · exact (apply_r4 d hd A B cp cq m x y s o w hm hg hin).mono fun e w' h => resC_err (by decide) h
      · exact (apply_r5 d hd A B cp cq m x y s o w hm hg hin).mono fun e w' h => resC_err (by decide) h
end Go.Proofs.Ytghdiolnonejaaa
end

section
namespace Go.Proofs.Ytghdiolnonejaaa
open Go Go.RowKit
attribute [local go_sem ↓] Go.wp_at_zero Go.wp_at_succ
section
variable {P : Program} (w : World)
/-- A slice whose elements' cells are known. -/
def SrcAt (w : World) (A : Option Addr) (m : Nat) (xs : List Value) : Prop := xs.length = m * 5 ∧ (0 < m → ∃ b o, A = some ⟨b, o, none⟩ ∧ ∀ (j : Nat) u, xs[j]? = some u → w.cell? ⟨b, o + j, none⟩ = some u) ∧ ∀ u ∈ xs, u.oneCell' = true
theorem SrcAt.keep {w w' : World} {A : Option Addr} {m : Nat} {xs : List Value} (h : SrcAt w A m xs) (hb : Below w.heap.size w w') : SrcAt w' A m xs :=
  ⟨h.1, fun hp => let ⟨b, o, e, hc⟩ := h.2.1 hp; ⟨b, o, e, fun j u hu => cell_below (hc j u hu) hb⟩, h.2.2⟩
theorem mvs_one (ms : List Mv) : ∀ u ∈ mvs ms, u.oneCell' = true := by
  intro u hu
  unfold mvs at hu
  obtain ⟨m, _, hm⟩ := List.mem_flatMap.1 hu
  simp only [Mv.cells, List.mem_cons, List.not_mem_nil, or_false] at hm
  rcases hm with rfl | rfl | rfl | rfl | rfl <;> rfl
theorem MovesAt.src {w : World} {v : Value} {ms : List Mv} (h : MovesAt w v ms) : ∃ (A : Option Addr) (c : Nat), v = .slice A ms.length c ∧ SrcAt w A ms.length (mvs ms) := by
  obtain ⟨base, h⟩ := h
  obtain ⟨A, c, rfl⟩ := owns_slice h
  refine ⟨A, c, rfl, h.1, fun hp => ?_, mvs_one ms⟩
  obtain ⟨g, cap, e, _, hg⟩ := World.ownsRow.form h hp
  injection e with e1 _ _
  subst e1
  refine ⟨g, 0, rfl, fun j u hu => ?_⟩
  have hj : j < ms.length * 5 := by
    have := (List.getElem?_eq_some_iff.1 hu).1
    rw [mvs_len] at this
    exact this
  rw [Nat.zero_add, World.ownsRow.cellAt h j hj]
  exact hu
theorem run_append_src (base : Nat) (t ty e : TypeId) (i : TypeInfo) (z : Value) (bytes : Nat) (ht : P.underlying t = some (.slice e)) (hi : P.info? e = some i) (hz : i.zero = some z)
    (hsize : i.size = 5) (hby : i.bytes = bytes) (hzs : z.cells.size = 5)
    (v : Value) (n : Nat) (xs : List Value) (hown : w.ownsRow base e 5 v n xs)
    (A : Option Addr) (m c : Nat) (ys : List Value) (hin : SrcAt w A m ys)
    (h63 : n + m ≤ maxLen) (hbytes : (n + m) * bytes ≤ 140737488355328) (hbase : base ≤ w.heap.size) :
    ∃ v' w', (Builtin.append_ #[t, t] ty #[v, .slice A m c]).run P w = .ok v' w' ∧ w'.ownsRow base e 5 v' (n + m) (xs ++ ys) ∧ w.grownBy w' v.ownBlock := by
  have hl := hin.1
  rcases Nat.eq_zero_or_pos m with h0 | h0
  · subst h0
    obtain rfl : ys = [] := List.eq_nil_of_length_eq_zero (by omega)
    have hr : (Builtin.append_ #[t, t] ty #[v, .slice A 0 c]).run P w = .ok v w := by
      rcases hown.2 with ⟨rfl, rfl⟩ | ⟨g, cap, cur, rfl, _, _, hnc, _⟩
      · cases A <;> simp [Builtin.append_, run_underlying ht, sizeOf, typeInfo, hi, Builtin.lenOf, Builtin.firstCells, loadCells, loadCellsFrom]
      · cases A <;> simp [Builtin.append_, run_underlying ht, sizeOf, typeInfo, hi, Builtin.lenOf, Builtin.firstCells, hnc, storeCells, loadCells, loadCellsFrom]
    refine ⟨v, w, hr, by simpa using hown, ⟨rfl, rfl, rfl, Nat.le_refl _, fun _ _ _ => rfl⟩⟩
  · obtain ⟨b, o, rfl, hc⟩ := hin.2.1 h0
    obtain ⟨v', w', hr, h2, h3, _⟩ := run_append_own (P := P) w base t ty e i z 5 bytes ht hi hz hsize hby hzs (by omega) v n xs hown ⟨b, o, none⟩ m c ys hl (fun j u hu => by
      have : (⟨b, o, none⟩ : Addr).add j = ⟨b, o + j, none⟩ := by unfold Addr.add; split <;> simp_all
      rw [this]; exact hc j u hu) hin.2.2 h63 hbytes hbase
    exact ⟨v', w', hr, h2, h3⟩
theorem wp_append_src {o : Oper} {a : Act} {K : Act → World → Prop} {Q : Exit → Act → World → Prop} (s x : Operand) (t : TypeId)
    (ho : o.op = .call { callee := .builtin .append, args := #[s, x], argTypes := #[t, t] })
    (base : Nat) (e : TypeId) (i : TypeInfo) (z : Value) (bytes : Nat) (ht : P.underlying t = some (.slice e)) (hi : P.info? e = some i) (hz : i.zero = some z)
    (hsize : i.size = 5) (hby : i.bytes = bytes) (hzs : z.cells.size = 5)
    (v : Value) (n : Nat) (xs : List Value) (hs : a.eval s = v) (hown : w.ownsRow base e 5 v n xs)
    (A : Option Addr) (m c : Nat) (ys : List Value) (hx : a.eval x = .slice A m c) (hin : SrcAt w A m ys)
    (h63 : n + m ≤ maxLen) (hbytes : (n + m) * bytes ≤ 140737488355328) (hbase : base ≤ w.heap.size)
    (h : ∀ v' w', w'.ownsRow base e 5 v' (n + m) (xs ++ ys) → w.grownBy w' v.ownBlock → K (a.put o.dst v') w') : o.wp P a w K Q := by
  obtain ⟨v', w', hr, h2, h3⟩ := run_append_src (P := P) w base t o.type e i z bytes ht hi hz hsize hby hzs v n xs hown A m c ys hin h63 hbytes hbase
  unfold Oper.wp execOp
  simp only [ho, resolve, invoke, builtin, Sem.run_bind, Sem.run_pure, Result.andThen_ok, List.map_toArray, List.map_cons, List.map_nil, hs, hx, hr]
  exact h v' w' h2 h3
theorem wpList_append_src {ops : Array Oper} {rest : List Oper} {o : Oper} {a : Act} {Q : Exit → Act → World → Prop} (hgd : o.guard = none) (s x : Operand) (t : TypeId)
    (ho : o.op = .call { callee := .builtin .append, args := #[s, x], argTypes := #[t, t] })
    (base : Nat) (e : TypeId) (i : TypeInfo) (z : Value) (bytes : Nat) (ht : P.underlying t = some (.slice e)) (hi : P.info? e = some i) (hz : i.zero = some z)
    (hsize : i.size = 5) (hby : i.bytes = bytes) (hzs : z.cells.size = 5)
    (v : Value) (n : Nat) (xs : List Value) (hs : a.eval s = v) (hown : w.ownsRow base e 5 v n xs)
    (A : Option Addr) (m c : Nat) (ys : List Value) (hx : a.eval x = .slice A m c) (hin : SrcAt w A m ys)
    (h63 : n + m ≤ maxLen) (hbytes : (n + m) * bytes ≤ 140737488355328) (hbase : base ≤ w.heap.size)
    (h : ∀ v' w', w'.ownsRow base e 5 v' (n + m) (xs ++ ys) → w.grownBy w' v.ownBlock → wpList P ops Q rest (a.put o.dst v') w') : wpList P ops Q (o :: rest) a w :=
  wpList_plain hgd fun _ hK => wp_append_src w s x t ho base e i z bytes ht hi hz hsize hby hzs v n xs hs hown A m c ys hx hin h63 hbytes hbase fun v' w' h2 h3 => hK _ _ (h v' w' h2 h3)
end
def cuN (x : Int) : List Mv := [⟨1, x, 0, -1, false⟩, ⟨1, x, 0, -1, true⟩, ⟨1, x, 0, 1, false⟩, ⟨1, x, 0, 1, true⟩]
def cuC : Nat → List Mv
  | 0 => []
  | k + 1 => cuC k ++ cuN ((k : Int) - 1)
def unC : Nat → List Mv
  | 0 => []
  | k + 1 => unC k ++ [⟨2, k, 0, 0, false⟩]
def pkN (x y : Int) : Nat → List Mv
  | 0 => []
  | j + 1 => pkN x y j ++ [⟨3, x, y, (j : Int) - 1, false⟩, ⟨3, x, y, (j : Int) - 1, true⟩]
def pkNY (x : Int) : Nat → List Mv
  | 0 => []
  | k + 1 => pkNY x k ++ pkN x ((k : Int) - 2) 3
def pkNX (n : Nat) : Nat → List Mv
  | 0 => []
  | k + 1 => pkNX n k ++ pkNY ((k : Int) - 2) (4 * n + 2)
def upN (x : Nat) : Nat → List Mv
  | 0 => []
  | k + 1 => upN x k ++ (if x < k then [⟨4, x, k, 0, false⟩] else [])
def upNX (n : Nat) : Nat → List Mv
  | 0 => []
  | k + 1 => upNX n k ++ upN k n
/-- Those that can be applied. -/
noncomputable def sel (d : Pl.Dg) (l : List Mv) : List Mv := l.flatMap (fun m => one (apC d m) m)
theorem sel_nil (d : Pl.Dg) : sel d [] = [] := rfl
theorem sel_app (d : Pl.Dg) (l r : List Mv) : sel d (l ++ r) = sel d l ++ sel d r := by unfold sel; rw [List.flatMap_append]
theorem sel_cons (d : Pl.Dg) (m : Mv) (l : List Mv) : sel d (m :: l) = one (apC d m) m ++ sel d l := by unfold sel; rw [List.flatMap_cons]
theorem mem_one {c : Int} {m z : Mv} : z ∈ one c m ↔ z = m ∧ c = 0 := by
  unfold one
  split
  · rename_i h; simp [h]
  · rename_i h; simp [h]
theorem mem_sel {d : Pl.Dg} {l : List Mv} {z : Mv} : z ∈ sel d l ↔ z ∈ l ∧ apC d z = 0 := by
  unfold sel
  rw [List.mem_flatMap]
  constructor
  · rintro ⟨m, h1, h2⟩
    obtain ⟨rfl, h3⟩ := mem_one.1 h2
    exact ⟨h1, h3⟩
  · rintro ⟨h1, h2⟩
    exact ⟨z, h1, mem_one.2 ⟨rfl, h2⟩⟩
theorem sel_len (d : Pl.Dg) : ∀ l, (sel d l).length ≤ l.length
  | [] => Nat.le_refl _
  | m :: l => by
    have a := sel_len d l
    have b := one_len (apC d m) m
    rw [sel_cons, List.length_append, List.length_cons]
    omega
theorem apC_in {d : Pl.Dg} {m : Mv} (hk : 1 ≤ m.kind ∧ m.kind ≤ 5) (hin : inR d.n m) : apC d m = if m.kind = 1 then curlableC d m.x else if m.kind = 2 then uncC d m.x.toNat else if m.kind = 3 then pkQ d m.x m.y m.sign else if m.kind = 4 then unpC d m.x.toNat m.y.toNat else sldC d m.x.toNat := by
  unfold apC
  rw [if_neg (by omega), if_neg (by rw [Pl.vb_true hin]; decide)]
theorem apC_out {d : Pl.Dg} {m : Mv} (hk : 1 ≤ m.kind ∧ m.kind ≤ 5) (hin : ¬ inR d.n m) : apC d m = 2 := by
  unfold apC
  rw [if_neg (by omega), if_pos (Pl.vb_false hin)]
theorem cu_code {d : Pl.Dg} {x s : Int} {o : Bool} (hx : -1 ≤ x ∧ x < 4 * (d.n : Int)) (hs : s = 1 ∨ s = -1) : apC d ⟨1, x, 0, s, o⟩ = curlableC d x := by
  rw [apC_in (by simp) (by unfold inR; simp; omega)]
  simp
theorem un_code {d : Pl.Dg} {c : Nat} (hc : c < d.n) : apC d ⟨2, c, 0, 0, false⟩ = uncC d c := by
  rw [apC_in (by simp) (by unfold inR; simp; omega)]
  simp
theorem up_code {d : Pl.Dg} {x y : Nat} (hx : x < y) (hy : y < d.n) : apC d ⟨4, x, y, 0, false⟩ = unpC d x y := by
  rw [apC_in (by simp) (by unfold inR; simp; omega)]
  simp
theorem pk_code {d : Pl.Dg} {F P : List Nat} (hF : ∀ x y, x < 4 * d.n → y < 4 * d.n → (F.getD x 0 = F.getD y 0 ↔ Pl.Orb (Pl.nx d) x y)) (hP : ∀ x y, x < d.n → y < d.n → (P.getD x 0 = P.getD y 0 ↔ Pl.Comp d x y)) {x y s : Int} {o : Bool} (hx : x < 4 * d.n) (hy : y < 4 * d.n) : apC d ⟨3, x, y, s, o⟩ = pkA d F P x y s o := by
  unfold pkA
  by_cases hin : inR d.n ⟨3, x, y, s, o⟩
  · rw [apC_in (by simp) hin, if_pos (Pl.vb_true hin), pkC_eq hF hP hx hy]
    simp
  · rw [apC_out (by simp) hin, if_neg (by rw [Pl.vb_false hin]; decide)]
theorem cu_sel (d : Pl.Dg) : ∀ k, k ≤ 4 * d.n + 1 → cuL d k = sel d (cuC k)
  | 0, _ => rfl
  | k + 1, h => by
    show cuL d k ++ cuX d ((k : Int) - 1) = sel d (cuC k ++ cuN ((k : Int) - 1))
    rw [sel_app, cu_sel d k (by omega)]
    congr 1
    unfold cuX cuN
    simp only [sel_cons, sel_nil]
    rw [cu_code (by omega) (.inr rfl), cu_code (by omega) (.inr rfl), cu_code (by omega) (.inl rfl), cu_code (by omega) (.inl rfl)]
    simp
theorem un_sel (d : Pl.Dg) : ∀ k, k ≤ d.n → unL d k = sel d (unC k)
  | 0, _ => rfl
  | k + 1, h => by
    show unL d k ++ one (uncC d k) ⟨2, k, 0, 0, false⟩ = sel d (unC k ++ [⟨2, k, 0, 0, false⟩])
    rw [sel_app, un_sel d k (by omega), sel_cons, sel_nil, un_code (by omega), List.append_nil]
theorem upY_sel (d : Pl.Dg) (x : Nat) : ∀ k, k ≤ d.n → upY d x k = sel d (upN x k)
  | 0, _ => rfl
  | k + 1, h => by
    show upY d x k ++ (if x < k then one (unpC d x k) ⟨4, x, k, 0, false⟩ else []) = sel d (upN x k ++ (if x < k then [⟨4, x, k, 0, false⟩] else []))
    rw [sel_app, upY_sel d x k (by omega)]
    congr 1
    split
    · rename_i hx; rw [sel_cons, sel_nil, up_code hx (by omega), List.append_nil]
    · rfl
theorem up_sel (d : Pl.Dg) : ∀ k, upX d k = sel d (upNX d.n k)
  | 0 => rfl
  | k + 1 => by
    show upX d k ++ upY d k d.n = sel d (upNX d.n k ++ upN k d.n)
    rw [sel_app, up_sel d k, upY_sel d k d.n (Nat.le_refl _)]
section
variable {d : Pl.Dg} {F P : List Nat}
theorem pkS_sel (hF : ∀ x y, x < 4 * d.n → y < 4 * d.n → (F.getD x 0 = F.getD y 0 ↔ Pl.Orb (Pl.nx d) x y)) (hP : ∀ x y, x < d.n → y < d.n → (P.getD x 0 = P.getD y 0 ↔ Pl.Comp d x y)) {x y : Int} (hx : x < 4 * d.n) (hy : y < 4 * d.n) : ∀ k, pkS d F P x y k = sel d (pkN x y k)
  | 0 => rfl
  | k + 1 => by
    show pkS d F P x y k ++ (one (pkA d F P x y ((k : Int) - 1) false) ⟨3, x, y, (k : Int) - 1, false⟩ ++ one (pkA d F P x y ((k : Int) - 1) true) ⟨3, x, y, (k : Int) - 1, true⟩) = sel d (pkN x y k ++ [⟨3, x, y, (k : Int) - 1, false⟩, ⟨3, x, y, (k : Int) - 1, true⟩])
    rw [sel_app, pkS_sel hF hP hx hy k, sel_cons, sel_cons, sel_nil, pk_code hF hP hx hy, pk_code hF hP hx hy, List.append_nil]
theorem pkY_sel (hF : ∀ x y, x < 4 * d.n → y < 4 * d.n → (F.getD x 0 = F.getD y 0 ↔ Pl.Orb (Pl.nx d) x y)) (hP : ∀ x y, x < d.n → y < d.n → (P.getD x 0 = P.getD y 0 ↔ Pl.Comp d x y)) {x : Int} (hx : x < 4 * d.n) : ∀ k, k ≤ 4 * d.n + 2 → pkY d F P x k = sel d (pkNY x k)
  | 0, _ => rfl
  | k + 1, h => by
    show pkY d F P x k ++ pkS d F P x ((k : Int) - 2) 3 = sel d (pkNY x k ++ pkN x ((k : Int) - 2) 3)
    rw [sel_app, pkY_sel hF hP hx k (by omega), pkS_sel hF hP hx (by omega)]
theorem pkX_sel (hF : ∀ x y, x < 4 * d.n → y < 4 * d.n → (F.getD x 0 = F.getD y 0 ↔ Pl.Orb (Pl.nx d) x y)) (hP : ∀ x y, x < d.n → y < d.n → (P.getD x 0 = P.getD y 0 ↔ Pl.Comp d x y)) : ∀ k, k ≤ 4 * d.n + 2 → pkX d F P k = sel d (pkNX d.n k)
  | 0, _ => rfl
  | k + 1, h => by
    show pkX d F P k ++ pkY d F P ((k : Int) - 2) (4 * d.n + 2) = sel d (pkNX d.n k ++ pkNY ((k : Int) - 2) (4 * d.n + 2))
    rw [sel_app, pkX_sel hF hP k (by omega), pkY_sel hF hP (by omega) _ (Nat.le_refl _)]
end
theorem pkNY_kind {x : Int} : ∀ {k : Nat} {z : Mv}, z ∈ pkNY x k → z.kind = 3
  | 0, z, h => by cases h
  | k + 1, z, h => by
    have h : z ∈ pkNY x k ++ pkN x ((k : Int) - 2) 3 := h
    rw [List.mem_append] at h
    rcases h with h | h
    · exact pkNY_kind h
    · simp only [pkN, List.mem_append, List.mem_cons, List.not_mem_nil, or_false, false_or] at h
      rcases h with ((rfl | rfl) | rfl | rfl) | rfl | rfl <;> rfl
theorem pkNX_kind {n : Nat} : ∀ {k : Nat} {z : Mv}, z ∈ pkNX n k → z.kind = 3
  | 0, z, h => by cases h
  | k + 1, z, h => by
    have h : z ∈ pkNX n k ++ pkNY ((k : Int) - 2) (4 * n + 2) := h
    rw [List.mem_append] at h
    rcases h with h | h
    · exact pkNX_kind h
    · exact pkNY_kind h
theorem pk_full {d : Pl.Dg} (h : 64 < d.n + 2) (k : Nat) : sel d (pkNX d.n k) = [] := by
  refine List.eq_nil_iff_forall_not_mem.2 fun z hz => ?_
  obtain ⟨h1, h2⟩ := mem_sel.1 hz
  have hk := pkNX_kind h1
  by_cases hin : inR d.n z
  · rw [apC_in (by omega) hin, if_neg (by omega), if_neg (by omega), if_pos hk] at h2
    unfold pkQ at h2
    rw [if_pos h] at h2
    split at h2
    · cases h2
    · split at h2 <;> cases h2
  · rw [apC_out (by omega) hin] at h2
    cases h2
noncomputable def allL (d : Pl.Dg) : List Mv := sel d (cuC (4 * d.n + 1)) ++ sel d (unC d.n) ++ sel d (pkNX d.n (4 * d.n + 2)) ++ sel d (upNX d.n d.n) ++ slL d (4 * d.n)
end Go.Proofs.Ytghdiolnonejaaa
end

section
namespace Go.Proofs.Ytghdiolnonejaaa
open Go Go.RowKit
attribute [local go_sem ↓] Go.wp_at_zero Go.wp_at_succ
theorem mvs_apps (ms r : List Mv) : mvs (ms ++ r) = mvs ms ++ mvs r := by unfold mvs; rw [List.flatMap_append]
/-- A diagram in its box, and a list of moves of the call's own. -/
structure AL (w : World) (dv : List Value) (b : Nat) (v : Value) (ms : List Mv) (W : World) : Prop where
  d : Row W w.heap.size 24 dv
  o : W.ownsRow b 37 5 v ms.length (mvs ms)
  bel : Below w.heap.size w W
  lo : w.heap.size < b
  lo2 : b ≤ W.heap.size
section
variable {w W W' W2 : World} {dv : List Value} {b : Nat} {v v' : Value} {ms r : List Mv}
theorem AL.below (h : AL w dv b v ms W) (hb : Below W.heap.size W W') : AL w dv b v ms W' :=
  ⟨h.d.below hb, own_below h.o hb, h.bel.trans (hb.mono h.bel.size), h.lo, Nat.le_trans h.lo2 hb.size⟩
theorem AL.far (h : AL w dv b v ms W) : some w.heap.size ≠ v.ownBlock := fun e => by have := (h.o.lt _ e.symm).1; have := h.lo; omega
theorem AL.app (h : AL w dv b v ms W) (own : W2.ownsRow b 37 5 v' (ms.length + r.length) (mvs ms ++ mvs r)) (gr : W.grownBy W2 v.ownBlock) : AL w dv b v' (ms ++ r) W2 := by
  refine ⟨h.d.grown gr h.far, ?_, h.bel.grown gr h.bel.size (fun k hk => by have := (h.o.lt k hk).1; have := h.lo; omega), h.lo, Nat.le_trans h.lo2 gr.size⟩
  rw [mvs_apps, List.length_append]
  exact own
end
theorem cu_le {d : Pl.Dg} (hn : d.n ≤ 64) : (sel d (cuC (4 * d.n + 1))).length ≤ 1028 := by
  have a := cuL_len d (4 * d.n + 1)
  rw [cu_sel d _ (Nat.le_refl _)] at a
  omega
theorem un_le {d : Pl.Dg} (hn : d.n ≤ 64) : (sel d (unC d.n)).length ≤ 64 := by
  have a := unL_len d d.n
  rw [un_sel d _ (Nat.le_refl _)] at a
  omega
theorem up_le {d : Pl.Dg} (hn : d.n ≤ 64) : (sel d (upNX d.n d.n)).length ≤ 4096 := by
  have a := upX_len hn d.n
  rw [up_sel d _] at a
  omega
theorem pk_all {d : Pl.Dg} (hn : d.n ≤ 64) {F P : List Nat} (hF : ∀ x y, x < 4 * d.n → y < 4 * d.n → (F.getD x 0 = F.getD y 0 ↔ Pl.Orb (Pl.nx d) x y)) (hP : ∀ x y, x < d.n → y < d.n → (P.getD x 0 = P.getD y 0 ↔ Pl.Comp d x y)) :
    (if 64 < d.n + 2 then [] else pkX d F P (4 * d.n + 2)) = sel d (pkNX d.n (4 * d.n + 2)) ∧ (sel d (pkNX d.n (4 * d.n + 2))).length ≤ 399384 := by
  have a := pkX_len hn F P (4 * d.n + 2)
  rw [pkX_sel hF hP _ (Nat.le_refl _)] at a
  refine ⟨?_, by omega⟩
  split
  · rename_i h
    rw [pk_full h]
  · exact pkX_sel hF hP _ (Nat.le_refl _)
set_option maxRecDepth 100000 in
set_option maxHeartbeats 8000000 in
theorem All_any (d : Pl.Dg) (hd : Pl.Valid d) (A B : Option Addr) (cp cq m : Nat) (w : World) (hm : m = 4 * d.n) (hg : DgAt w A B d) :
    Calls Try.prog 33 #[.agg #[.slice A d.n cp, .slice B m cq, .int .i64 d.lp]] w fun e w' => ∃ v, e = .returned v ∧ MovesIn w.heap.size w' v (allL d) ∧ Below w.heap.size w w' := by
  have HM := hide hm
  have HG := hide hg
  have HW := hide (Pl.Valid.iff.1 hd).1
  have hn := hd.wf.few
  clear hg hm
  have R0 := hide (row_at (W := w) (g := w.heap.size) (t := 24) (vs := [.slice A d.n cp, .slice B m cq, .int .i64 (d.lp : Int)]) rfl)
  have B0 := hide (show Below w.heap.size w (w.alloc (.cells #[.slice A d.n cp, .slice B m cq, .int .i64 (d.lp : Int)] 24)) from (Below.refl _ _).alloc (Nat.le_refl _) _)
  go_enter Try.func33, Try.ntmps33
  go_wp2_with fail
  refine (valid_yes d hd A B cp cq m _ HM.out (HG.out.keep B0.out)).mono ?_
  rintro e w1 ⟨rfl, hb1⟩
  have R1 := hide (R0.out.below hb1)
  have B1 := hide (B0.out.trans (hb1.mono B0.out.size))
  clear hb1
  obtain ⟨d0, d1, d2, d3⟩ := box3 R1.out
  go_wp2_with fail
  refine (curls_any d HW.out A B cp cq m _ HM.out (HG.out.keep B1.out)).mono ?_
  rintro e w2 ⟨v2, rfl, ⟨b, hlb, hlb2, own2⟩, hb2⟩
  have hw1 : w.heap.size < w1.heap.size := R1.out.lt
  have Q2 := hide (show AL w [.slice A d.n cp, .slice B m cq, .int .i64 (d.lp : Int)] b v2 (sel d (cuC (4 * d.n + 1))) w2 from
    ⟨R1.out.below hb2, by rw [HM.out] at own2; rw [cu_sel d _ (Nat.le_refl _)] at own2; exact own2, B1.out.trans (hb2.mono B1.out.size), by omega, hlb2⟩)
  clear hb2 own2 R1 B1 R0 B0 d0 d1 d2 d3
  obtain ⟨d0, d1, d2, d3⟩ := box3 Q2.out.d
  go_wp2_with fail
  refine (uncurls_any d HW.out A B cp cq m _ HM.out (HG.out.keep Q2.out.bel)).mono ?_
  rintro e w3 ⟨v3, rfl, hv3, hb3⟩
  rw [un_sel d _ (Nat.le_refl _)] at hv3
  obtain ⟨A3, c3, rfl, src3⟩ := hv3.at.src
  have Q3 := hide (Q2.out.below hb3)
  have S3 := hide src3
  have lcu := cu_le (d := d) hn
  have lun := un_le (d := d) hn
  have lup := up_le (d := d) hn
  have B3 : (sel d (cuC (4 * d.n + 1))).length + (sel d (unC d.n)).length ≤ maxLen := by unfold maxLen; omega
  have C3 : ((sel d (cuC (4 * d.n + 1))).length + (sel d (unC d.n)).length) * 40 ≤ 140737488355328 := by omega
  have D3 : b ≤ w3.heap.size := Q3.out.lo2
  obtain ⟨n0, hn0, hz0, hz1, hz2⟩ := info_parts moveInfo
  clear hb3 hv3 src3 d0 d1 d2 d3 Q2
  go_wp2_with (at_builtin; refine wpList_append_src _ (by rfl) _ _ 27 (by rfl) b 37 n0 (.agg #[.int .i64 0, .int .i64 0, .int .i64 0, .int .i64 0, .bool false]) 40 Try.underlying27 hn0 hz0 hz1 hz2 rfl v2 _ _ (by rfl) Q3.out.o A3 _ c3 _ (by rfl) S3.out B3 C3 D3 ?_; intro v4 w4 own4 grow4; obtain ⟨d0, d1, d2, d3⟩ := box3 (Q3.out.app own4 grow4).d; have Q4 := hide (Q3.out.app own4 grow4); clear own4 grow4)
  clear Q3 S3 B3 C3 D3
  refine (survey_any d hd A B cp cq m _ HM.out (HG.out.keep Q4.out.bel)).mono ?_
  rintro e w5 ⟨L, R, cl, cr, F, P, he, hsh, hF, hP, hb5⟩
  have Q5 := hide (Q4.out.below hb5)
  have HSH := hide hsh
  obtain ⟨pe, pl⟩ := pk_all hn hF hP
  have PE := hide pe
  rw [← HM.out] at he
  unfold sheetV at he
  subst he
  have hb5s := hb5.size
  clear hb5 hsh hF hP pe d0 d1 d2 d3 Q4
  obtain ⟨d0, d1, d2, d3⟩ := box3 Q5.out.d
  go_wp2_with fail
  refine (pokes_any d HW.out F P A B L R cp cq cl cr m _ HM.out HSH.out).mono ?_
  rintro e w6 ⟨v6, rfl, hv6, hb6⟩
  rw [HM.out, PE.out] at hv6
  obtain ⟨A6, c6, rfl, src6⟩ := hv6.at.src
  have Q6 := hide (Q5.out.below hb6)
  have S6 := hide src6
  have B6 : (sel d (cuC (4 * d.n + 1)) ++ sel d (unC d.n)).length + (sel d (pkNX d.n (4 * d.n + 2))).length ≤ maxLen := by unfold maxLen; rw [List.length_append]; omega
  have C6 : ((sel d (cuC (4 * d.n + 1)) ++ sel d (unC d.n)).length + (sel d (pkNX d.n (4 * d.n + 2))).length) * 40 ≤ 140737488355328 := by rw [List.length_append]; omega
  have D6 : b ≤ w6.heap.size := Q6.out.lo2
  clear hb6 hv6 src6 d0 d1 d2 d3 Q5 HSH PE
  go_wp2_with (at_builtin; refine wpList_append_src _ (by rfl) _ _ 27 (by rfl) b 37 n0 (.agg #[.int .i64 0, .int .i64 0, .int .i64 0, .int .i64 0, .bool false]) 40 Try.underlying27 hn0 hz0 hz1 hz2 rfl v4 _ _ (by rfl) Q6.out.o A6 _ c6 _ (by rfl) S6.out B6 C6 D6 ?_; intro v7 w7 own7 grow7; obtain ⟨d0, d1, d2, d3⟩ := box3 (Q6.out.app own7 grow7).d; have Q7 := hide (Q6.out.app own7 grow7); clear own7 grow7)
  clear Q6 S6 B6 C6 D6
  refine (unpokes_any d HW.out A B cp cq m _ HM.out (HG.out.keep Q7.out.bel)).mono ?_
  rintro e w8 ⟨v8, rfl, hv8, hb8⟩
  rw [up_sel] at hv8
  obtain ⟨A8, c8, rfl, src8⟩ := hv8.at.src
  have Q8 := hide (Q7.out.below hb8)
  have S8 := hide src8
  have B8 : (sel d (cuC (4 * d.n + 1)) ++ sel d (unC d.n) ++ sel d (pkNX d.n (4 * d.n + 2))).length + (sel d (upNX d.n d.n)).length ≤ maxLen := by unfold maxLen; simp only [List.length_append]; omega
  have C8 : ((sel d (cuC (4 * d.n + 1)) ++ sel d (unC d.n) ++ sel d (pkNX d.n (4 * d.n + 2))).length + (sel d (upNX d.n d.n)).length) * 40 ≤ 140737488355328 := by simp only [List.length_append]; omega
  have D8 : b ≤ w8.heap.size := Q8.out.lo2
  clear hb8 hv8 src8 d0 d1 d2 d3 Q7
  go_wp2_with (at_builtin; refine wpList_append_src _ (by rfl) _ _ 27 (by rfl) b 37 n0 (.agg #[.int .i64 0, .int .i64 0, .int .i64 0, .int .i64 0, .bool false]) 40 Try.underlying27 hn0 hz0 hz1 hz2 rfl v7 _ _ (by rfl) Q8.out.o A8 _ c8 _ (by rfl) S8.out B8 C8 D8 ?_; intro v9 w9 own9 grow9; obtain ⟨d0, d1, d2, d3⟩ := box3 (Q8.out.app own9 grow9).d; have Q9 := hide (Q8.out.app own9 grow9); clear own9 grow9)
  clear Q8 S8 B8 C8 D8
  refine (slides_any d HW.out A B cp cq m _ HM.out (HG.out.keep Q9.out.bel)).mono ?_
  rintro e w10 ⟨v10, rfl, hv10, hb10⟩
  rw [HM.out] at hv10
  have lsl := slL_len d (4 * d.n)
  obtain ⟨A10, c10, rfl, src10⟩ := hv10.src
  have Q10 := hide (Q9.out.below hb10)
  have S10 := hide src10
  have B10 : (sel d (cuC (4 * d.n + 1)) ++ sel d (unC d.n) ++ sel d (pkNX d.n (4 * d.n + 2)) ++ sel d (upNX d.n d.n)).length + (slL d (4 * d.n)).length ≤ maxLen := by unfold maxLen; simp only [List.length_append]; omega
  have C10 : ((sel d (cuC (4 * d.n + 1)) ++ sel d (unC d.n) ++ sel d (pkNX d.n (4 * d.n + 2)) ++ sel d (upNX d.n d.n)).length + (slL d (4 * d.n)).length) * 40 ≤ 140737488355328 := by simp only [List.length_append]; omega
  have D10 : b ≤ w10.heap.size := Q10.out.lo2
  clear hb10 hv10 src10 d0 d1 d2 d3 Q9
  go_wp2_with (at_builtin; refine wpList_append_src _ (by rfl) _ _ 27 (by rfl) b 37 n0 (.agg #[.int .i64 0, .int .i64 0, .int .i64 0, .int .i64 0, .bool false]) 40 Try.underlying27 hn0 hz0 hz1 hz2 rfl v9 _ _ (by rfl) Q10.out.o A10 _ c10 _ (by rfl) S10.out B10 C10 D10 ?_; intro v11 w11 own11 grow11; obtain ⟨d0, d1, d2, d3⟩ := box3 (Q10.out.app own11 grow11).d; have Q11 := hide (Q10.out.app own11 grow11); clear own11 grow11)
  go_ret
  exact ⟨v11, rfl, ⟨b, by have := Q11.out.lo; omega, Q11.out.lo2, Q11.out.o⟩, Q11.out.bel⟩
end Go.Proofs.Ytghdiolnonejaaa
end

section
namespace Go.Proofs.Ytghdiolnonejaaa
open Go Go.RowKit
attribute [local go_sem ↓] Go.wp_at_zero Go.wp_at_succ
theorem mv_get : ∀ (ms : List Mv) (j : Nat) (z : Mv), ms[j]? = some z → ∀ (i : Nat) (u : Value), z.cells[i]? = some u → (mvs ms)[j * 5 + i]? = some u
  | [], j, z, h, _, _, _ => by cases h
  | m :: ms, 0, z, h, i, u, hu => by
    obtain rfl : m = z := by simpa using h
    have hi : i < m.cells.length := (List.getElem?_eq_some_iff.1 hu).1
    show (m.cells ++ mvs ms)[0 * 5 + i]? = some u
    rw [Nat.zero_mul, Nat.zero_add, List.getElem?_append_left hi, hu]
  | m :: ms, j + 1, z, h, i, u, hu => by
    have ih := mv_get ms j z (by simpa using h) i u hu
    show (m.cells ++ mvs ms)[(j + 1) * 5 + i]? = some u
    have e : m.cells.length = 5 := rfl
    rw [List.getElem?_append_right (by rw [e]; omega), e, ← ih]
    congr 1
    omega
theorem mv_val {w : World} {v : Value} {ms : List Mv} (h : MovesAt w v ms) : ∃ (A : Option Addr) (c : Nat), v = .slice A ms.length c ∧ (0 < ms.length → ∃ g, A = some ⟨g, 0, none⟩ ∧ g < w.heap.size ∧ ∀ (j : Nat) (z : Mv), ms[j]? = some z → ∀ (i : Nat) (u : Value), z.cells[i]? = some u → w.cell? ⟨g, j * 5 + i, none⟩ = some u) := by
  obtain ⟨base, h⟩ := h
  obtain ⟨A, c, rfl⟩ := owns_slice h
  refine ⟨A, c, rfl, fun hp => ?_⟩
  obtain ⟨g, cap, e, _, hg⟩ := World.ownsRow.form h hp
  injection e with e1 _ _
  subst e1
  refine ⟨g, rfl, hg, fun j z hz i u hu => ?_⟩
  have hj : j < ms.length := (List.getElem?_eq_some_iff.1 hz).1
  have hi : i < 5 := (List.getElem?_eq_some_iff.1 hu).1
  rw [World.ownsRow.cellAt h (j * 5 + i) (by omega)]
  exact mv_get ms j z hz i u hu
/-- A slice of moves, by its cells. -/
def MovesV (w : World) (A : Option Addr) (n : Nat) (ms : List Mv) : Prop := n = ms.length ∧ (0 < n → ∃ g, A = some ⟨g, 0, none⟩ ∧ g < w.heap.size ∧ ∀ (j : Nat) (z : Mv), ms[j]? = some z → ∀ (i : Nat) (u : Value), z.cells[i]? = some u → w.cell? ⟨g, j * 5 + i, none⟩ = some u)
theorem MovesV.keep {w w' : World} {A : Option Addr} {n : Nat} {ms : List Mv} (h : MovesV w A n ms) (hb : Below w.heap.size w w') : MovesV w' A n ms :=
  ⟨h.1, fun hp => let ⟨g, e, hl, hc⟩ := h.2 hp; ⟨g, e, Nat.lt_of_lt_of_le hl hb.size, fun j z hz i u hu => cell_below (hc j z hz i u hu) hb⟩⟩
theorem MovesAt.mv {w : World} {v : Value} {ms : List Mv} (h : MovesAt w v ms) : ∃ (A : Option Addr) (c : Nat), v = .slice A ms.length c ∧ MovesV w A ms.length ms := by
  obtain ⟨A, c, e, h2⟩ := mv_val h
  exact ⟨A, c, e, rfl, h2⟩
theorem MovesV.nil (w : World) (A : Option Addr) : MovesV w A 0 [] := ⟨rfl, fun h => absurd h (by omega)⟩
theorem MovesV.at_ {w : World} {A : Option Addr} {n j : Nat} {ms : List Mv} (h : MovesV w A n ms) (hj : j < n) : ∃ g k x y s o, A = some ⟨g, 0, none⟩ ∧ g < w.heap.size ∧ ms[j]? = some ⟨k, x, y, s, o⟩ ∧ w.cell? ⟨g, j * 5, none⟩ = some (.int .i64 k) ∧ w.cell? ⟨g, j * 5 + 1, none⟩ = some (.int .i64 x) ∧ w.cell? ⟨g, j * 5 + 2, none⟩ = some (.int .i64 y) ∧ w.cell? ⟨g, j * 5 + 3, none⟩ = some (.int .i64 s) ∧ w.cell? ⟨g, j * 5 + 4, none⟩ = some (.bool o) := by
  obtain ⟨g, e, hl, hc⟩ := h.2 (by omega)
  obtain ⟨z, hz⟩ : ∃ z, ms[j]? = some z := ⟨_, List.getElem?_eq_getElem (by rw [← h.1]; exact hj)⟩
  obtain ⟨k, x, y, s, o⟩ := z
  exact ⟨g, k, x, y, s, o, e, hl, hz, hc j _ hz 0 _ rfl, hc j _ hz 1 _ rfl, hc j _ hz 2 _ rfl, hc j _ hz 3 _ rfl, hc j _ hz 4 _ rfl⟩
end Go.Proofs.Ytghdiolnonejaaa
end
