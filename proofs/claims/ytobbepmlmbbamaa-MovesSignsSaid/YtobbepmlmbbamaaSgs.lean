import Derived.Test.YtobbepmlmbbamaaXf
import Derived.Test.YtobbepmlmbbamaaSla
import Derived.Test.YtobbepmlmbbamaaXh
import Derived.Test.YtobbepmlmbbamaaOpen
import Derived.Test.YtobbepmlmbbamaaWf
import Derived.ChangeSlices
import Derived.Deep.Strs
import Derived.Test.YtobbepmlmbbamaaRows
import Derived.Deep.DeepHandedRow
import Derived.WalkKit
import Derived.ProofKit
import Derived.OpenShut

section
/-
  Walks: Apply: slides, and the errors. (Written by wip/mw/gen/apply2.py.)
-/
namespace Go.Proofs.Ytobbepmlmbbamaa
open Go Go.RowKit
attribute [local go_sem ↓] Go.wp_at_zero Go.wp_at_succ

set_option maxRecDepth 100000 in
set_option maxHeartbeats 4000000 in
theorem apply_5 (d : Pl.Dg) (hd : Pl.Valid d) (A B : Option Addr) (cp cq m : Nat) (x : Nat) (y s : Int) (o : Bool) (w : World) (hm : m = 4 * d.n) (hg : DgAt w A B d) (hin : inR d.n ⟨5, (x : Int), y, s, o⟩) :
    Calls Try.prog 22 #[.agg #[.slice A d.n cp, .slice B m cq, .int .i64 d.lp], (Mv.mk 5 (x : Int) y s o).v] w (ResC (sldC d x) (sldD d x) (sldI d x) w) := by
  have hn := hd.wf.few
  have hlp := hd.wf.lp
  have HM := hide hm
  have HG := hide hg
  have hm2 : m ≤ 256 := by omega
  clear hm hg
  have PB0 := hide (boxes4 w (.slice A d.n cp) (.slice B m cq) (.int .i64 (d.lp : Int)) (.int .i64 5) (.int .i64 (x : Int)) (.int .i64 y) (.int .i64 s) (.bool o))
  unfold W4 at PB0
  obtain ⟨x0, x1, x2, x3, b0, s0⟩ := PB0.out
  have X0 := hide x0
  have X1 := hide x1
  have X2 := hide x2
  have X3 := hide x3
  have B0 := hide b0
  have S0 := hide s0
  clear x0 x1 x2 x3 b0 s0 PB0
  unfold Mv.v
  go_enter Try.func22, Try.ntmps22
  go_wp2_with fail
  refine (valid_yes d hd A B cp cq m _ HM.out (HG.out.keep B0.out)).mono ?_
  rintro e w1 ⟨rfl, hb1⟩
  have Y0 := hide (X0.out.below hb1)
  have Y1 := hide (X1.out.below hb1)
  have Y2 := hide (X2.out.below hb1)
  have Y3 := hide (X3.out.below hb1)
  have B1 := hide (B0.out.trans (hb1.mono B0.out.size))
  have hsz1 : w.heap.size + 4 ≤ w1.heap.size := by have := hb1.size; have := S0.out; omega
  clear X0 X1 X2 X3 B0 S0 hb1
  obtain ⟨d0, d1, d2, d3⟩ := box3 Y0.out
  obtain ⟨m0, m1, m2, m3, m4, m5⟩ := box5 Y1.out
  go_wp2_with fail
  refine (inRange_5 d.n (x : Int) y s o w1 (by omega)).mono ?_
  rintro e w2 ⟨rfl, hb2⟩
  rw [Pl.vb_true hin]
  have hsz : w.heap.size + 4 ≤ w2.heap.size := by have := hb2.size; omega
  have AB2 := hide (show AB w w2.heap.size (w2.heap.size + 1) [.slice A d.n cp, .slice B m cq, .int .i64 (d.lp : Int)] [.int .i64 5, .int .i64 (x : Int), .int .i64 y, .int .i64 s, .bool o] ((w2.alloc (.cells #[.slice none 0 0, .slice none 0 0, .int .i64 0] 24)).alloc (.cells #[.int .i64 0, .int .i64 0, .int .i64 0, .int .i64 0, .bool false] 28)) from
    ⟨((Y0.out.below hb2).alloc _).alloc _, ((Y1.out.below hb2).alloc _).alloc _, ⟨_, ((Y2.out.below hb2).alloc _).alloc _, rfl⟩, ⟨_, ((Y3.out.below hb2).alloc _).alloc _, rfl⟩, ⟨_, (row_at (vs := [_, _, _]) rfl).alloc _, rfl⟩, ⟨_, row_at (vs := [_, _, _, _, _]) (by simp), rfl⟩, ((B1.out.trans (hb2.mono B1.out.size)).alloc (B1.out.trans (hb2.mono B1.out.size)).size _).alloc ((B1.out.trans (hb2.mono B1.out.size)).alloc (B1.out.trans (hb2.mono B1.out.size)).size _).size _, by omega, by omega, by omega⟩)
  obtain ⟨d0', d1', d2', d3'⟩ := box3 (Y0.out.below hb2)
  obtain ⟨m0', m1', m2', m3', m4', m5'⟩ := box5 (Y1.out.below hb2)
  clear d0 d1 d2 d3 m0 m1 m2 m3 m4 m5 Y0 Y1 Y2 Y3 B1 hb2 hsz1
  have z1 : w.heap.size < w2.heap.size := by omega
  have z2 : w.heap.size + 1 < w2.heap.size := by omega
  have hx : x < 4 * d.n := by have := hin; unfold inR at this; simp at this; omega
  have HG2 := hide (HG.out.keep AB2.out.bel)
  go_wp2_with fail
  obtain ⟨gr, hgr⟩ : ∃ g, g = w2.heap.size := ⟨_, rfl⟩
  obtain ⟨gi, hgi⟩ : ∃ g, g = w2.heap.size + 1 := ⟨_, rfl⟩
  rw [← hgi, ← hgr] at AB2
  rw [← hgi, ← hgr]
  clear hgr hgi
  refine (slide_any d hd.wf A B cp cq m x 5 y s o _ HM.out HG2.out hx).mono ?_
  intro e w3 hres
  have AB3 := hide (AB2.out.below hres.2.2)
  obtain ⟨cc, hcc⟩ : ∃ c, c = sldC d x := ⟨_, rfl⟩
  obtain ⟨rr, hrr⟩ : ∃ r, r = sldD d x := ⟨_, rfl⟩
  obtain ⟨mm, hmm⟩ : ∃ r, r = sldI d x := ⟨_, rfl⟩
  unfold SldPost at hres
  rw [← hcc, ← hrr, ← hmm] at hres
  have HCC := hide hcc
  have HRR := hide hrr
  have HMM := hide hmm
  clear hcc hrr hmm d0' d1' d2' d3' m0' m1' m2' m3' m4' m5' AB2 HG2
  by_cases hc : cc = 0
  · obtain ⟨A9, B9, c8, c9, k9, x9, y9, s9, o9, hmv, rfl, hT⟩ := ResOk.split (hres.2.1 hc)
    have HMV := hide hmv
    have HC := hide hc
    clear hmv hc
    have AD3 := hide (show AD w gr gi _ _ A9 B9 rr w3 from ⟨AB3.out, hT⟩)
    clear hT
    obtain ⟨N9, hN9⟩ : ∃ n, n = rr.n := ⟨_, rfl⟩
    obtain ⟨L9, hL9⟩ : ∃ n, n = rr.lp := ⟨_, rfl⟩
    rw [← hN9, ← hL9]
    have HN9 := hide hN9
    have HL9 := hide hL9
    clear hN9 hL9
    obtain ⟨_, r3, l3⟩ := AB3.out.r
    obtain ⟨_, r4, l4⟩ := AB3.out.i
    obtain ⟨_, r5, l5⟩ := AB3.out.rd
    obtain ⟨_, r6, l6⟩ := AB3.out.rm
    obtain ⟨e0, e1, e2, e3⟩ := cells3 r3 l3
    obtain ⟨f0, f1, f2, f3, f4, f5⟩ := cells5 r4 l4
    obtain ⟨g0, g1, g2, g3⟩ := cells3 r5 l5
    obtain ⟨h0, h1, h2, h3, h4, h5⟩ := cells5 r6 l6
    have y1 : gr ≠ w.heap.size + 1 + 1 := by have := AB3.out.lr; omega
    have y2 : gr ≠ w.heap.size + 1 + 1 + 1 := by have := AB3.out.lr; omega
    have y3 : gi ≠ w.heap.size + 1 + 1 := by have := AB3.out.li; omega
    have y4 : gi ≠ w.heap.size + 1 + 1 + 1 := by have := AB3.out.li; omega
    have y5 : gr ≠ gi := AB3.out.ne
    have y6 : w.heap.size + 1 + 1 ≠ w.heap.size + 1 + 1 + 1 := by omega
    clear r3 l3 r4 l4 r5 l5 r6 l6
    go_upto_region 22 with fail
    go_region
    go_wp2_with fail
    clear e0 e1 e2 e3 f0 f1 f2 f3 f4 f5 g0 g1 g2 g3 h0 h1 h2 h3 h4 h5
    have AD4 := hide ((((((((AD3.out.setR 0 (.slice A9 N9 c8)).setR 1 (.slice B9 (4 * N9) c9)).setR 2 (.int .i64 (L9 : Int))).setI 0 (.int .i64 k9)).setI 1 (.int .i64 x9)).setI 2 (.int .i64 y9)).setI 3 (.int .i64 s9)).setI 4 (.bool o9))
    obtain ⟨_, r5, l5⟩ := AD4.out.b.rd
    obtain ⟨_, r6, l6⟩ := AD4.out.b.rm
    refine bodyPost_ret (v := .tuple #[.agg #[.slice A9 N9 c8, .slice B9 (4 * N9) c9, .int .i64 (L9 : Int)], .agg #[.int .i64 k9, .int .i64 x9, .int .i64 y9, .int .i64 s9, .bool o9], .int .i64 0]) ?_ rfl ?_
    · obtain ⟨e0, e1, e2, e3, e4, e5, e6, e7⟩ := fin8 r5 r6 l5 l6 (by omega) (.slice A9 N9 c8) (.slice B9 (4 * N9) c9) (.int .i64 (L9 : Int)) (.int .i64 k9) (.int .i64 x9) (.int .i64 y9) (.int .i64 s9) (.bool o9)
      simp [results, Try.results22, go_sem, e0, e1, e2, e3, e4, e5, e6, e7]
    · have AD5 := (((((((AD4.out.setD 0 (.slice A9 N9 c8)).setD 1 (.slice B9 (4 * N9) c9)).setD 2 (.int .i64 (L9 : Int))).setM 0 (.int .i64 k9)).setM 1 (.int .i64 x9)).setM 2 (.int .i64 y9)).setM 3 (.int .i64 s9)).setM 4 (.bool o9)
      rw [← HCC.out, ← HRR.out, ← HMM.out]
      refine ⟨fun h => absurd HC.out h, fun _ => ⟨A9, B9, c8, c9, by rw [HMV.out, ← HN9.out, ← HL9.out]; rfl, AD5.drew.t⟩, AD5.drew.b.bel⟩
  · have HC := hide hc
    have hE := ResErr.split (hres.1 hc)
    subst hE
    have t1 : (cc != 0) = true := by rw [bne_iff_ne]; exact hc
    clear hc
    obtain ⟨_, r3, l3⟩ := AB3.out.r
    obtain ⟨_, r4, l4⟩ := AB3.out.i
    obtain ⟨_, r5, l5⟩ := AB3.out.rd
    obtain ⟨_, r6, l6⟩ := AB3.out.rm
    obtain ⟨e0, e1, e2, e3⟩ := cells3 r3 l3
    obtain ⟨f0, f1, f2, f3, f4, f5⟩ := cells5 r4 l4
    obtain ⟨g0, g1, g2, g3⟩ := cells3 r5 l5
    obtain ⟨h0, h1, h2, h3, h4, h5⟩ := cells5 r6 l6
    have y1 : gr ≠ w.heap.size + 1 + 1 := by have := AB3.out.lr; omega
    have y2 : gr ≠ w.heap.size + 1 + 1 + 1 := by have := AB3.out.lr; omega
    have y3 : gi ≠ w.heap.size + 1 + 1 := by have := AB3.out.li; omega
    have y4 : gi ≠ w.heap.size + 1 + 1 + 1 := by have := AB3.out.li; omega
    have y5 : gr ≠ gi := AB3.out.ne
    have y6 : w.heap.size + 1 + 1 ≠ w.heap.size + 1 + 1 + 1 := by omega
    clear r3 l3 r4 l4 r5 l5 r6 l6
    go_wp2
    clear e0 e1 e2 e3 f0 f1 f2 f3 f4 f5 g0 g1 g2 g3 h0 h1 h2 h3 h4 h5
    have AB4 := (((((((AB3.out.setR 0 (.slice none 0 0)).setR 1 (.slice none 0 0)).setR 2 (.int .i64 0)).setI 0 (.int .i64 0)).setI 1 (.int .i64 0)).setI 2 (.int .i64 0)).setI 3 (.int .i64 0)).setI 4 (.bool false)
    obtain ⟨_, r5, l5⟩ := AB4.rd
    obtain ⟨_, r6, l6⟩ := AB4.rm
    refine bodyPost_ret (v := .tuple #[nilD, nilM, .int .i64 cc]) ?_ rfl ?_
    · obtain ⟨e0, e1, e2, e3, e4, e5, e6, e7⟩ := fin8 r5 r6 l5 l6 (by omega) (.slice none 0 0) (.slice none 0 0) (.int .i64 0) (.int .i64 0) (.int .i64 0) (.int .i64 0) (.int .i64 0) (.bool false)
      unfold nilD nilM
      simp [results, Try.results22, go_sem, e0, e1, e2, e3, e4, e5, e6, e7]
    · rw [← HCC.out, ← HRR.out, ← HMM.out]
      exact ⟨fun _ => (show ResErr _ _ from rfl), fun h => absurd h HC.out, below8 AB4.bel _ _ _ _ _ _ _ _⟩
set_option maxRecDepth 100000 in
set_option maxHeartbeats 2000000 in
theorem apply_r1 (d : Pl.Dg) (hd : Pl.Valid d) (A B : Option Addr) (cp cq m : Nat) (x y s : Int) (o : Bool) (w : World) (hm : m = 4 * d.n) (hg : DgAt w A B d) (hin : ¬ inR d.n ⟨1, x, y, s, o⟩) :
    Calls Try.prog 22 #[.agg #[.slice A d.n cp, .slice B m cq, .int .i64 d.lp], (Mv.mk 1 x y s o).v] w fun e w' => ResErr 2 e ∧ Below w.heap.size w w' := by
  have hn := hd.wf.few
  have hlp := hd.wf.lp
  have HM := hide hm
  have HG := hide hg
  have hm2 : m ≤ 256 := by omega
  clear hm hg
  have PB0 := hide (boxes4 w (.slice A d.n cp) (.slice B m cq) (.int .i64 (d.lp : Int)) (.int .i64 1) (.int .i64 x) (.int .i64 y) (.int .i64 s) (.bool o))
  unfold W4 at PB0
  obtain ⟨x0, x1, x2, x3, b0, s0⟩ := PB0.out
  have X0 := hide x0
  have X1 := hide x1
  have X2 := hide x2
  have X3 := hide x3
  have B0 := hide b0
  have S0 := hide s0
  clear x0 x1 x2 x3 b0 s0 PB0
  unfold Mv.v
  go_enter Try.func22, Try.ntmps22
  go_wp2_with fail
  refine (valid_yes d hd A B cp cq m _ HM.out (HG.out.keep B0.out)).mono ?_
  rintro e w1 ⟨rfl, hb1⟩
  have Y0 := hide (X0.out.below hb1)
  have Y1 := hide (X1.out.below hb1)
  have Y2 := hide (X2.out.below hb1)
  have Y3 := hide (X3.out.below hb1)
  have B1 := hide (B0.out.trans (hb1.mono B0.out.size))
  have hsz1 : w.heap.size + 4 ≤ w1.heap.size := by have := hb1.size; have := S0.out; omega
  clear X0 X1 X2 X3 B0 S0 hb1
  obtain ⟨d0, d1, d2, d3⟩ := box3 Y0.out
  obtain ⟨m0, m1, m2, m3, m4, m5⟩ := box5 Y1.out
  go_wp2_with fail
  refine (inRange_1 d.n x y s o w1 (by omega)).mono ?_
  rintro e w2 ⟨rfl, hb2⟩
  rw [Pl.vb_false hin]
  have Z2 := hide (Y2.out.below hb2)
  have Z3 := hide (Y3.out.below hb2)
  have B2 := hide (B1.out.trans (hb2.mono B1.out.size))
  clear d0 d1 d2 d3 m0 m1 m2 m3 m4 m5 Y0 Y1 Y2 Y3 B1 hb2
  obtain ⟨p0, p1, p2, p3⟩ := box3 Z2.out
  obtain ⟨q0, q1, q2, q3, q4, q5⟩ := box5 Z3.out
  go_wp2
  refine bodyPost_ret (v := .tuple #[nilD, nilM, .int .i64 2]) ?_ rfl ?_
  · obtain ⟨e0, e1, e2, e3, e4, e5, e6, e7⟩ := fin8 (Z2.out) (Z3.out) rfl rfl (by omega) (.slice none 0 0) (.slice none 0 0) (.int .i64 0) (.int .i64 0) (.int .i64 0) (.int .i64 0) (.int .i64 0) (.bool false)
    unfold nilD nilM
    simp [results, Try.results22, go_sem, e0, e1, e2, e3, e4, e5, e6, e7]
  · exact ⟨(show ResErr _ _ from rfl), below8 B2.out _ _ _ _ _ _ _ _⟩
set_option maxRecDepth 100000 in
set_option maxHeartbeats 2000000 in
theorem apply_r2 (d : Pl.Dg) (hd : Pl.Valid d) (A B : Option Addr) (cp cq m : Nat) (x y s : Int) (o : Bool) (w : World) (hm : m = 4 * d.n) (hg : DgAt w A B d) (hin : ¬ inR d.n ⟨2, x, y, s, o⟩) :
    Calls Try.prog 22 #[.agg #[.slice A d.n cp, .slice B m cq, .int .i64 d.lp], (Mv.mk 2 x y s o).v] w fun e w' => ResErr 2 e ∧ Below w.heap.size w w' := by
  have hn := hd.wf.few
  have hlp := hd.wf.lp
  have HM := hide hm
  have HG := hide hg
  have hm2 : m ≤ 256 := by omega
  clear hm hg
  have PB0 := hide (boxes4 w (.slice A d.n cp) (.slice B m cq) (.int .i64 (d.lp : Int)) (.int .i64 2) (.int .i64 x) (.int .i64 y) (.int .i64 s) (.bool o))
  unfold W4 at PB0
  obtain ⟨x0, x1, x2, x3, b0, s0⟩ := PB0.out
  have X0 := hide x0
  have X1 := hide x1
  have X2 := hide x2
  have X3 := hide x3
  have B0 := hide b0
  have S0 := hide s0
  clear x0 x1 x2 x3 b0 s0 PB0
  unfold Mv.v
  go_enter Try.func22, Try.ntmps22
  go_wp2_with fail
  refine (valid_yes d hd A B cp cq m _ HM.out (HG.out.keep B0.out)).mono ?_
  rintro e w1 ⟨rfl, hb1⟩
  have Y0 := hide (X0.out.below hb1)
  have Y1 := hide (X1.out.below hb1)
  have Y2 := hide (X2.out.below hb1)
  have Y3 := hide (X3.out.below hb1)
  have B1 := hide (B0.out.trans (hb1.mono B0.out.size))
  have hsz1 : w.heap.size + 4 ≤ w1.heap.size := by have := hb1.size; have := S0.out; omega
  clear X0 X1 X2 X3 B0 S0 hb1
  obtain ⟨d0, d1, d2, d3⟩ := box3 Y0.out
  obtain ⟨m0, m1, m2, m3, m4, m5⟩ := box5 Y1.out
  go_wp2_with fail
  refine (inRange_2 d.n x y s o w1 (by omega)).mono ?_
  rintro e w2 ⟨rfl, hb2⟩
  rw [Pl.vb_false hin]
  have Z2 := hide (Y2.out.below hb2)
  have Z3 := hide (Y3.out.below hb2)
  have B2 := hide (B1.out.trans (hb2.mono B1.out.size))
  clear d0 d1 d2 d3 m0 m1 m2 m3 m4 m5 Y0 Y1 Y2 Y3 B1 hb2
  obtain ⟨p0, p1, p2, p3⟩ := box3 Z2.out
  obtain ⟨q0, q1, q2, q3, q4, q5⟩ := box5 Z3.out
  go_wp2
  refine bodyPost_ret (v := .tuple #[nilD, nilM, .int .i64 2]) ?_ rfl ?_
  · obtain ⟨e0, e1, e2, e3, e4, e5, e6, e7⟩ := fin8 (Z2.out) (Z3.out) rfl rfl (by omega) (.slice none 0 0) (.slice none 0 0) (.int .i64 0) (.int .i64 0) (.int .i64 0) (.int .i64 0) (.int .i64 0) (.bool false)
    unfold nilD nilM
    simp [results, Try.results22, go_sem, e0, e1, e2, e3, e4, e5, e6, e7]
  · exact ⟨(show ResErr _ _ from rfl), below8 B2.out _ _ _ _ _ _ _ _⟩
set_option maxRecDepth 100000 in
set_option maxHeartbeats 2000000 in
theorem apply_r3 (d : Pl.Dg) (hd : Pl.Valid d) (A B : Option Addr) (cp cq m : Nat) (x y s : Int) (o : Bool) (w : World) (hm : m = 4 * d.n) (hg : DgAt w A B d) (hin : ¬ inR d.n ⟨3, x, y, s, o⟩) :
    Calls Try.prog 22 #[.agg #[.slice A d.n cp, .slice B m cq, .int .i64 d.lp], (Mv.mk 3 x y s o).v] w fun e w' => ResErr 2 e ∧ Below w.heap.size w w' := by
  have hn := hd.wf.few
  have hlp := hd.wf.lp
  have HM := hide hm
  have HG := hide hg
  have hm2 : m ≤ 256 := by omega
  clear hm hg
  have PB0 := hide (boxes4 w (.slice A d.n cp) (.slice B m cq) (.int .i64 (d.lp : Int)) (.int .i64 3) (.int .i64 x) (.int .i64 y) (.int .i64 s) (.bool o))
  unfold W4 at PB0
  obtain ⟨x0, x1, x2, x3, b0, s0⟩ := PB0.out
  have X0 := hide x0
  have X1 := hide x1
  have X2 := hide x2
  have X3 := hide x3
  have B0 := hide b0
  have S0 := hide s0
  clear x0 x1 x2 x3 b0 s0 PB0
  unfold Mv.v
  go_enter Try.func22, Try.ntmps22
  go_wp2_with fail
  refine (valid_yes d hd A B cp cq m _ HM.out (HG.out.keep B0.out)).mono ?_
  rintro e w1 ⟨rfl, hb1⟩
  have Y0 := hide (X0.out.below hb1)
  have Y1 := hide (X1.out.below hb1)
  have Y2 := hide (X2.out.below hb1)
  have Y3 := hide (X3.out.below hb1)
  have B1 := hide (B0.out.trans (hb1.mono B0.out.size))
  have hsz1 : w.heap.size + 4 ≤ w1.heap.size := by have := hb1.size; have := S0.out; omega
  clear X0 X1 X2 X3 B0 S0 hb1
  obtain ⟨d0, d1, d2, d3⟩ := box3 Y0.out
  obtain ⟨m0, m1, m2, m3, m4, m5⟩ := box5 Y1.out
  go_wp2_with fail
  refine (inRange_3 d.n x y s o w1 (by omega)).mono ?_
  rintro e w2 ⟨rfl, hb2⟩
  rw [Pl.vb_false hin]
  have Z2 := hide (Y2.out.below hb2)
  have Z3 := hide (Y3.out.below hb2)
  have B2 := hide (B1.out.trans (hb2.mono B1.out.size))
  clear d0 d1 d2 d3 m0 m1 m2 m3 m4 m5 Y0 Y1 Y2 Y3 B1 hb2
  obtain ⟨p0, p1, p2, p3⟩ := box3 Z2.out
  obtain ⟨q0, q1, q2, q3, q4, q5⟩ := box5 Z3.out
  go_wp2
  refine bodyPost_ret (v := .tuple #[nilD, nilM, .int .i64 2]) ?_ rfl ?_
  · obtain ⟨e0, e1, e2, e3, e4, e5, e6, e7⟩ := fin8 (Z2.out) (Z3.out) rfl rfl (by omega) (.slice none 0 0) (.slice none 0 0) (.int .i64 0) (.int .i64 0) (.int .i64 0) (.int .i64 0) (.int .i64 0) (.bool false)
    unfold nilD nilM
    simp [results, Try.results22, go_sem, e0, e1, e2, e3, e4, e5, e6, e7]
  · exact ⟨(show ResErr _ _ from rfl), below8 B2.out _ _ _ _ _ _ _ _⟩
set_option maxRecDepth 100000 in
set_option maxHeartbeats 2000000 in
theorem apply_r4 (d : Pl.Dg) (hd : Pl.Valid d) (A B : Option Addr) (cp cq m : Nat) (x y s : Int) (o : Bool) (w : World) (hm : m = 4 * d.n) (hg : DgAt w A B d) (hin : ¬ inR d.n ⟨4, x, y, s, o⟩) :
    Calls Try.prog 22 #[.agg #[.slice A d.n cp, .slice B m cq, .int .i64 d.lp], (Mv.mk 4 x y s o).v] w fun e w' => ResErr 2 e ∧ Below w.heap.size w w' := by
  have hn := hd.wf.few
  have hlp := hd.wf.lp
  have HM := hide hm
  have HG := hide hg
  have hm2 : m ≤ 256 := by omega
  clear hm hg
  have PB0 := hide (boxes4 w (.slice A d.n cp) (.slice B m cq) (.int .i64 (d.lp : Int)) (.int .i64 4) (.int .i64 x) (.int .i64 y) (.int .i64 s) (.bool o))
  unfold W4 at PB0
  obtain ⟨x0, x1, x2, x3, b0, s0⟩ := PB0.out
  have X0 := hide x0
  have X1 := hide x1
  have X2 := hide x2
  have X3 := hide x3
  have B0 := hide b0
  have S0 := hide s0
  clear x0 x1 x2 x3 b0 s0 PB0
  unfold Mv.v
  go_enter Try.func22, Try.ntmps22
  go_wp2_with fail
  refine (valid_yes d hd A B cp cq m _ HM.out (HG.out.keep B0.out)).mono ?_
  rintro e w1 ⟨rfl, hb1⟩
  have Y0 := hide (X0.out.below hb1)
  have Y1 := hide (X1.out.below hb1)
  have Y2 := hide (X2.out.below hb1)
  have Y3 := hide (X3.out.below hb1)
  have B1 := hide (B0.out.trans (hb1.mono B0.out.size))
  have hsz1 : w.heap.size + 4 ≤ w1.heap.size := by have := hb1.size; have := S0.out; omega
  clear X0 X1 X2 X3 B0 S0 hb1
  obtain ⟨d0, d1, d2, d3⟩ := box3 Y0.out
  obtain ⟨m0, m1, m2, m3, m4, m5⟩ := box5 Y1.out
  go_wp2_with fail
  refine (inRange_4 d.n x y s o w1 (by omega)).mono ?_
  rintro e w2 ⟨rfl, hb2⟩
  rw [Pl.vb_false hin]
  have Z2 := hide (Y2.out.below hb2)
  have Z3 := hide (Y3.out.below hb2)
  have B2 := hide (B1.out.trans (hb2.mono B1.out.size))
  clear d0 d1 d2 d3 m0 m1 m2 m3 m4 m5 Y0 Y1 Y2 Y3 B1 hb2
  obtain ⟨p0, p1, p2, p3⟩ := box3 Z2.out
  obtain ⟨q0, q1, q2, q3, q4, q5⟩ := box5 Z3.out
  go_wp2
  refine bodyPost_ret (v := .tuple #[nilD, nilM, .int .i64 2]) ?_ rfl ?_
  · obtain ⟨e0, e1, e2, e3, e4, e5, e6, e7⟩ := fin8 (Z2.out) (Z3.out) rfl rfl (by omega) (.slice none 0 0) (.slice none 0 0) (.int .i64 0) (.int .i64 0) (.int .i64 0) (.int .i64 0) (.int .i64 0) (.bool false)
    unfold nilD nilM
    simp [results, Try.results22, go_sem, e0, e1, e2, e3, e4, e5, e6, e7]
  · exact ⟨(show ResErr _ _ from rfl), below8 B2.out _ _ _ _ _ _ _ _⟩
set_option maxRecDepth 100000 in
set_option maxHeartbeats 2000000 in
theorem apply_r5 (d : Pl.Dg) (hd : Pl.Valid d) (A B : Option Addr) (cp cq m : Nat) (x y s : Int) (o : Bool) (w : World) (hm : m = 4 * d.n) (hg : DgAt w A B d) (hin : ¬ inR d.n ⟨5, x, y, s, o⟩) :
    Calls Try.prog 22 #[.agg #[.slice A d.n cp, .slice B m cq, .int .i64 d.lp], (Mv.mk 5 x y s o).v] w fun e w' => ResErr 2 e ∧ Below w.heap.size w w' := by
  have hn := hd.wf.few
  have hlp := hd.wf.lp
  have HM := hide hm
  have HG := hide hg
  have hm2 : m ≤ 256 := by omega
  clear hm hg
  have PB0 := hide (boxes4 w (.slice A d.n cp) (.slice B m cq) (.int .i64 (d.lp : Int)) (.int .i64 5) (.int .i64 x) (.int .i64 y) (.int .i64 s) (.bool o))
  unfold W4 at PB0
  obtain ⟨x0, x1, x2, x3, b0, s0⟩ := PB0.out
  have X0 := hide x0
  have X1 := hide x1
  have X2 := hide x2
  have X3 := hide x3
  have B0 := hide b0
  have S0 := hide s0
  clear x0 x1 x2 x3 b0 s0 PB0
  unfold Mv.v
  go_enter Try.func22, Try.ntmps22
  go_wp2_with fail
  refine (valid_yes d hd A B cp cq m _ HM.out (HG.out.keep B0.out)).mono ?_
  rintro e w1 ⟨rfl, hb1⟩
  have Y0 := hide (X0.out.below hb1)
  have Y1 := hide (X1.out.below hb1)
  have Y2 := hide (X2.out.below hb1)
  have Y3 := hide (X3.out.below hb1)
  have B1 := hide (B0.out.trans (hb1.mono B0.out.size))
  have hsz1 : w.heap.size + 4 ≤ w1.heap.size := by have := hb1.size; have := S0.out; omega
  clear X0 X1 X2 X3 B0 S0 hb1
  obtain ⟨d0, d1, d2, d3⟩ := box3 Y0.out
  obtain ⟨m0, m1, m2, m3, m4, m5⟩ := box5 Y1.out
  go_wp2_with fail
  refine (inRange_5 d.n x y s o w1 (by omega)).mono ?_
  rintro e w2 ⟨rfl, hb2⟩
  rw [Pl.vb_false hin]
  have Z2 := hide (Y2.out.below hb2)
  have Z3 := hide (Y3.out.below hb2)
  have B2 := hide (B1.out.trans (hb2.mono B1.out.size))
  clear d0 d1 d2 d3 m0 m1 m2 m3 m4 m5 Y0 Y1 Y2 Y3 B1 hb2
  obtain ⟨p0, p1, p2, p3⟩ := box3 Z2.out
  obtain ⟨q0, q1, q2, q3, q4, q5⟩ := box5 Z3.out
  go_wp2
  refine bodyPost_ret (v := .tuple #[nilD, nilM, .int .i64 2]) ?_ rfl ?_
  · obtain ⟨e0, e1, e2, e3, e4, e5, e6, e7⟩ := fin8 (Z2.out) (Z3.out) rfl rfl (by omega) (.slice none 0 0) (.slice none 0 0) (.int .i64 0) (.int .i64 0) (.int .i64 0) (.int .i64 0) (.int .i64 0) (.bool false)
    unfold nilD nilM
    simp [results, Try.results22, go_sem, e0, e1, e2, e3, e4, e5, e6, e7]
  · exact ⟨(show ResErr _ _ from rfl), below8 B2.out _ _ _ _ _ _ _ _⟩
set_option maxRecDepth 100000 in
set_option maxHeartbeats 2000000 in
theorem apply_k (d : Pl.Dg) (hd : Pl.Valid d) (A B : Option Addr) (cp cq m : Nat) (k x y s : Int) (o : Bool) (w : World) (hm : m = 4 * d.n) (hg : DgAt w A B d) (hk : k < 1 ∨ 5 < k) :
    Calls Try.prog 22 #[.agg #[.slice A d.n cp, .slice B m cq, .int .i64 d.lp], (Mv.mk k x y s o).v] w fun e w' => ResErr 11 e ∧ Below w.heap.size w w' := by
  have hn := hd.wf.few
  have hlp := hd.wf.lp
  have HM := hide hm
  have HG := hide hg
  have hm2 : m ≤ 256 := by omega
  clear hm hg
  have PB0 := hide (boxes4 w (.slice A d.n cp) (.slice B m cq) (.int .i64 (d.lp : Int)) (.int .i64 k) (.int .i64 x) (.int .i64 y) (.int .i64 s) (.bool o))
  unfold W4 at PB0
  obtain ⟨x0, x1, x2, x3, b0, s0⟩ := PB0.out
  have X0 := hide x0
  have X1 := hide x1
  have X2 := hide x2
  have X3 := hide x3
  have B0 := hide b0
  have S0 := hide s0
  clear x0 x1 x2 x3 b0 s0 PB0
  unfold Mv.v
  go_enter Try.func22, Try.ntmps22
  go_wp2_with fail
  refine (valid_yes d hd A B cp cq m _ HM.out (HG.out.keep B0.out)).mono ?_
  rintro e w1 ⟨rfl, hb1⟩
  have Y0 := hide (X0.out.below hb1)
  have Y1 := hide (X1.out.below hb1)
  have Y2 := hide (X2.out.below hb1)
  have Y3 := hide (X3.out.below hb1)
  have B1 := hide (B0.out.trans (hb1.mono B0.out.size))
  have hsz1 : w.heap.size + 4 ≤ w1.heap.size := by have := hb1.size; have := S0.out; omega
  clear X0 X1 X2 X3 B0 S0 hb1
  obtain ⟨d0, d1, d2, d3⟩ := box3 Y0.out
  obtain ⟨m0, m1, m2, m3, m4, m5⟩ := box5 Y1.out
  obtain ⟨p0, p1, p2, p3⟩ := box3 Y2.out
  obtain ⟨q0, q1, q2, q3, q4, q5⟩ := box5 Y3.out
  by_cases h1 : k < 1
  · go_wp2
    refine bodyPost_ret (v := .tuple #[nilD, nilM, .int .i64 11]) ?_ rfl ?_
    · obtain ⟨e0, e1, e2, e3, e4, e5, e6, e7⟩ := fin8 (Y2.out) (Y3.out) rfl rfl (by omega) (.slice none 0 0) (.slice none 0 0) (.int .i64 0) (.int .i64 0) (.int .i64 0) (.int .i64 0) (.int .i64 0) (.bool false)
      unfold nilD nilM
      simp [results, Try.results22, go_sem, e0, e1, e2, e3, e4, e5, e6, e7]
    · exact ⟨(show ResErr _ _ from rfl), below8 B1.out _ _ _ _ _ _ _ _⟩
  · have h2 : 5 < k := by omega
    go_wp2
    refine bodyPost_ret (v := .tuple #[nilD, nilM, .int .i64 11]) ?_ rfl ?_
    · obtain ⟨e0, e1, e2, e3, e4, e5, e6, e7⟩ := fin8 (Y2.out) (Y3.out) rfl rfl (by omega) (.slice none 0 0) (.slice none 0 0) (.int .i64 0) (.int .i64 0) (.int .i64 0) (.int .i64 0) (.int .i64 0) (.bool false)
      unfold nilD nilM
      simp [results, Try.results22, go_sem, e0, e1, e2, e3, e4, e5, e6, e7]
    · exact ⟨(show ResErr _ _ from rfl), below8 B1.out _ _ _ _ _ _ _ _⟩
set_option maxRecDepth 100000 in
set_option maxHeartbeats 2000000 in
theorem apply_v (sg mt : List Int) (lp : Int) (A B : Option Addr) (n q cp cq : Nat) (k x y s : Int) (o : Bool) (w : World) (hs : IntsAt w A n sg) (hm : IntsAt w B q mt) (hn : n ≤ maxLen) (hq : q ≤ maxLen) (hlp : -9223372036854775808 ≤ lp ∧ lp ≤ 9223372036854775807) (hv : ¬ Pl.VL sg mt lp) :
    Calls Try.prog 22 #[.agg #[.slice A n cp, .slice B q cq, .int .i64 lp], (Mv.mk k x y s o).v] w fun e w' => ResErr 1 e ∧ Below w.heap.size w w' := by
  have PB0 := hide (boxes4 w (.slice A n cp) (.slice B q cq) (.int .i64 lp) (.int .i64 k) (.int .i64 x) (.int .i64 y) (.int .i64 s) (.bool o))
  unfold W4 at PB0
  obtain ⟨x0, x1, x2, x3, b0, s0⟩ := PB0.out
  have X2 := hide x2
  have X3 := hide x3
  have B0 := hide b0
  clear x0 x1 x2 x3 b0 s0 PB0
  unfold Mv.v
  go_enter Try.func22, Try.ntmps22
  go_wp2_with fail
  refine (valid_any sg mt lp A B n q cp cq _ (hs.keep B0.out) (hm.keep B0.out) hn hq hlp).mono ?_
  rintro e w1 ⟨rfl, hb1⟩
  rw [Pl.vb_false hv]
  have Y2 := hide (X2.out.below hb1)
  have Y3 := hide (X3.out.below hb1)
  have B1 := hide (B0.out.trans (hb1.mono B0.out.size))
  clear X2 X3 B0 hb1
  obtain ⟨p0, p1, p2, p3⟩ := box3 Y2.out
  obtain ⟨q0, q1, q2, q3, q4, q5⟩ := box5 Y3.out
  go_wp2
  refine bodyPost_ret (v := .tuple #[nilD, nilM, .int .i64 1]) ?_ rfl ?_
  · obtain ⟨e0, e1, e2, e3, e4, e5, e6, e7⟩ := fin8 (Y2.out) (Y3.out) rfl rfl (by omega) (.slice none 0 0) (.slice none 0 0) (.int .i64 0) (.int .i64 0) (.int .i64 0) (.int .i64 0) (.int .i64 0) (.bool false)
    unfold nilD nilM
    simp [results, Try.results22, go_sem, e0, e1, e2, e3, e4, e5, e6, e7]
  · exact ⟨(show ResErr _ _ from rfl), below8 B1.out _ _ _ _ _ _ _ _⟩
/-- What Apply answers at a valid diagram: the code, the diagram, the inverse. -/
noncomputable def apC (d : Pl.Dg) (m : Mv) : Int :=
  if m.kind < 1 ∨ 5 < m.kind then 11 else if Pl.vb (inR d.n m) = false then 2 else if m.kind = 1 then curlableC d m.x else if m.kind = 2 then uncC d m.x.toNat else if m.kind = 3 then pkQ d m.x m.y m.sign else if m.kind = 4 then unpC d m.x.toNat m.y.toNat else sldC d m.x.toNat
def apD (d : Pl.Dg) (m : Mv) : Pl.Dg :=
  if m.kind = 1 then crl d m.x m.sign m.over else if m.kind = 2 then unD d m.x.toNat else if m.kind = 3 then pkD d m.x m.y m.sign m.over else if m.kind = 4 then unpD d m.x.toNat m.y.toNat else sldD d m.x.toNat
def apI (d : Pl.Dg) (m : Mv) : Mv :=
  if m.kind = 1 then ⟨2, d.n, 0, 0, false⟩ else if m.kind = 2 then unI d m.x.toNat else if m.kind = 3 then ⟨4, d.n, d.n + 1, 0, false⟩ else if m.kind = 4 then unpI d m.x.toNat m.y.toNat else sldI d m.x.toNat
theorem resC_err {c : Int} {r : Pl.Dg} {mv : Mv} {w : World} {e : Ending} {w' : World} (hc : c ≠ 0) (h : ResErr c e ∧ Below w.heap.size w w') : ResC c r mv w e w' := ⟨fun _ => h.1, fun h0 => absurd h0 hc, h.2⟩
theorem apply_any (d : Pl.Dg) (hd : Pl.Valid d) (A B : Option Addr) (cp cq m : Nat) (mv : Mv) (w : World) (hm : m = 4 * d.n) (hg : DgAt w A B d) :
    Calls Try.prog 22 #[.agg #[.slice A d.n cp, .slice B m cq, .int .i64 d.lp], mv.v] w (ResC (apC d mv) (apD d mv) (apI d mv) w) := by
  obtain ⟨k, x, y, s, o⟩ := mv
  by_cases hk : k < 1 ∨ 5 < k
  · have e : apC d ⟨k, x, y, s, o⟩ = 11 := by unfold apC; rw [if_pos hk]
    rw [e]
    exact (apply_k d hd A B cp cq m k x y s o w hm hg hk).mono fun e w' h => resC_err (by decide) h
  · by_cases hin : inR d.n ⟨k, x, y, s, o⟩
    · have hv : ¬ (Pl.vb (inR d.n ⟨k, x, y, s, o⟩) = false) := by rw [Pl.vb_true hin]; decide
      have e0 : apC d ⟨k, x, y, s, o⟩ = if k = 1 then curlableC d x else if k = 2 then uncC d x.toNat else if k = 3 then pkQ d x y s else if k = 4 then unpC d x.toNat y.toNat else sldC d x.toNat := by unfold apC; rw [if_neg hk, if_neg hv]
      have hk5 : k = 1 ∨ k = 2 ∨ k = 3 ∨ k = 4 ∨ k = 5 := by omega
      rcases hk5 with rfl | rfl | rfl | rfl | rfl
      · rw [e0]
        exact apply_1 d hd A B cp cq m x y s o w hm hg hin
      · obtain ⟨c, rfl⟩ := Int.eq_ofNat_of_zero_le (show 0 ≤ x by have := hin; unfold inR at this; simp at this; omega)
        rw [e0]
        exact apply_2 d hd A B cp cq m c y s o w hm hg hin
      · rw [e0]
        exact apply_3 d hd A B cp cq m x y s o w hm hg hin
      · obtain ⟨c, rfl⟩ := Int.eq_ofNat_of_zero_le (show 0 ≤ x by have := hin; unfold inR at this; simp at this; omega)
        obtain ⟨c', rfl⟩ := Int.eq_ofNat_of_zero_le (show 0 ≤ y by have := hin; unfold inR at this; simp at this; omega)
        rw [e0]
        exact apply_4 d hd A B cp cq m c c' s o w hm hg hin
      · obtain ⟨c, rfl⟩ := Int.eq_ofNat_of_zero_le (show 0 ≤ x by have := hin; unfold inR at this; simp at this; omega)
        rw [e0]
        exact apply_5 d hd A B cp cq m c y s o w hm hg hin
    · have e : apC d ⟨k, x, y, s, o⟩ = 2 := by unfold apC; rw [if_neg hk, if_pos (Pl.vb_false hin)]
      rw [e]
      have hk5 : k = 1 ∨ k = 2 ∨ k = 3 ∨ k = 4 ∨ k = 5 := by omega
      rcases hk5 with rfl | rfl | rfl | rfl | rfl
      · exact (apply_r1 d hd A B cp cq m x y s o w hm hg hin).mono fun e w' h => resC_err (by decide) h
      · exact (apply_r2 d hd A B cp cq m x y s o w hm hg hin).mono fun e w' h => resC_err (by decide) h
      · exact (apply_r3 d hd A B cp cq m x y s o w hm hg hin).mono fun e w' h => resC_err (by decide) h
      · exact (apply_r4 d hd A B cp cq m x y s o w hm hg hin).mono fun e w' h => resC_err (by decide) h
      · exact (apply_r5 d hd A B cp cq m x y s o w hm hg hin).mono fun e w' h => resC_err (by decide) h
end Go.Proofs.Ytobbepmlmbbamaa
end

section
/-
  The law on signs, in plain Lean: what Apply does to the sum of the signs and to the number of crossings.
-/
namespace Go.Proofs.Ytobbepmlmbbamaa
open Go Go.RowKit

/-- By how much the sum of the signs changes; how many crossings are added. -/
def byK (m : Mv) (s : Int) : Int := if m.kind = 1 then m.sign else if m.kind = 2 then -s else 0
def moreK (m : Mv) : Int := if m.kind = 1 then 1 else if m.kind = 2 then -1 else if m.kind = 3 then 2 else if m.kind = 4 then -2 else 0
def Sml (l : List Int) : Prop := ∀ z, z ∈ l → -1 ≤ z ∧ z ≤ 1
theorem wf_sml {d : Pl.Dg} (hd : Pl.Wf d) : Sml d.sg := fun z hz => by
  obtain ⟨k, hk, rfl⟩ := List.getElem_of_mem hz
  have := hd.sign k hk
  unfold Pl.Dg.s at this
  rw [List.getD_eq_getElem?_getD, List.getElem?_eq_getElem hk] at this
  simp at this
  omega
theorem sml_app {l r : List Int} (h : Sml l) (h' : Sml r) : Sml (l ++ r) := fun z hz => by
  rcases List.mem_append.1 hz with h1 | h1
  · exact h z h1
  · exact h' z h1
theorem shr_sml {l : List Int} (h : Sml l) (gs : List Nat) : Sml (Pl.shrS gs l) := fun z hz => by
  unfold Pl.shrS at hz
  obtain ⟨c, _, rfl⟩ := List.mem_map.1 hz
  rw [List.getD_eq_getElem?_getD]
  cases hc : l[c]? with
  | none => simp
  | some v => exact h v (List.mem_of_getElem? hc)
theorem sgn2_sml (a b : Nat) : -1 ≤ sgn2 a b ∧ sgn2 a b ≤ 1 := by unfold sgn2; split <;> omega
theorem poke_signs (d : Pl.Dg) (x y : Int) (ov : Bool) : sgn2 (un0 d x y ov) (ov0 d x y ov) + sgn2 (un1 d x y ov) (ov1 d x y ov) = 0 := by
  unfold sgn2 un0 ov0 un1 ov1 lnS th0 th1 plc
  cases ov <;> cases fwd d y <;> cases fwd d x <;> decide
/-- THE LAW: at a move that is applied. -/
theorem signs_law {d : Pl.Dg} (hd : Pl.Valid d) (m : Mv) (h : apC d m = 0) :
    (apD d m).sg.sum = d.sg.sum + byK m (apI d m).sign ∧ ((apD d m).sg.length : Int) = d.sg.length + moreK m ∧ Sml (apD d m).sg := by
  obtain ⟨k, x, y, s, o⟩ := m
  have hs := wf_sml hd.wf
  by_cases hk : k < 1 ∨ 5 < k
  · unfold apC at h; rw [if_pos hk] at h; exact absurd h (by decide)
  by_cases hin : inR d.n ⟨k, x, y, s, o⟩
  · have hv : ¬ (Pl.vb (inR d.n ⟨k, x, y, s, o⟩) = false) := by rw [Pl.vb_true hin]; decide
    have e0 : apC d ⟨k, x, y, s, o⟩ = if k = 1 then curlableC d x else if k = 2 then uncC d x.toNat else if k = 3 then pkQ d x y s else if k = 4 then unpC d x.toNat y.toNat else sldC d x.toNat := by unfold apC; rw [if_neg hk, if_neg hv]
    rw [e0] at h
    have hk5 : k = 1 ∨ k = 2 ∨ k = 3 ∨ k = 4 ∨ k = 5 := by omega
    rcases hk5 with rfl | rfl | rfl | rfl | rfl
    · have hsg : s = 1 ∨ s = -1 := by have := hin; unfold inR at this; simp at this; omega
      refine ⟨?_, ?_, ?_⟩
      · show (d.sg ++ [s]).sum = d.sg.sum + s
        simp
      · show ((d.sg ++ [s]).length : Int) = d.sg.length + 1
        simp
      · show Sml (d.sg ++ [s])
        exact sml_app hs (fun z hz => by simp at hz; subst hz; omega)
    · obtain ⟨c, rfl⟩ := Int.eq_ofNat_of_zero_le (show 0 ≤ x by have := hin; unfold inR at this; simp at this; omega)
      have hc : c < d.sg.length := by have := hin; unfold inR at this; simp [Pl.Dg.n] at this; omega
      refine ⟨?_, ?_, ?_⟩
      · show (Pl.shrS [c] d.sg).sum = d.sg.sum + -(d.s c)
        rw [Pl.shrS_one d.sg hc]
        show _ - d.sg.getD c 0 = _ + -(d.sg.getD c 0)
        omega
      · show ((Pl.shrS [c] d.sg).length : Int) = d.sg.length + -1
        have := Pl.left_one hc
        rw [Pl.shrS_len]
        omega
      · show Sml (Pl.shrS [c] d.sg)
        exact shr_sml hs _
    · refine ⟨?_, ?_, ?_⟩
      · show (d.sg ++ [_, _]).sum = d.sg.sum + 0
        have := poke_signs d x y o
        simp
        omega
      · show ((d.sg ++ [_, _]).length : Int) = d.sg.length + 2
        simp
      · show Sml (d.sg ++ [_, _])
        refine sml_app hs (fun z hz => ?_)
        simp at hz
        rcases hz with rfl | rfl <;> exact sgn2_sml _ _
    · obtain ⟨a, rfl⟩ := Int.eq_ofNat_of_zero_le (show 0 ≤ x by have := hin; unfold inR at this; simp at this; omega)
      obtain ⟨b, rfl⟩ := Int.eq_ofNat_of_zero_le (show 0 ≤ y by have := hin; unfold inR at this; simp at this; omega)
      have hab : a < b ∧ b < d.n := by have := hin; unfold inR at this; simp at this; omega
      have h' : unpC d a b = 0 := h
      have eD : apD d ⟨4, (a : Int), (b : Int), s, o⟩ = unpD d a b := rfl
      cases hL : lensI d a b with
      | none => unfold unpC at h'; rw [hL] at h'; exact absurd (show (6 : Int) = 0 from h') (by decide)
      | some i =>
        have eS : (unpD d a b).sg = Pl.shrS [a, b] d.sg := by unfold unpD; rw [hL]; rfl
        obtain ⟨h1, h2, h3⟩ := lens_is hL
        have hi := lens_lt hL
        have hl : lnH a b i < 4 * d.n := by unfold lnH; split <;> omega
        have sg := Pl.lens_signs hd.wf hl h2 h3
        rw [h1] at sg
        have sab : d.s a + d.s b = 0 := by
          unfold lnH lnO at sg
          by_cases h4 : i < 4
          · rw [if_pos h4, if_pos h4, show (4 * a + i) / 4 = a by omega] at sg
            exact sg
          · rw [if_neg h4, if_neg h4, show (4 * b + i - 4) / 4 = b by omega] at sg
            omega
        have hb : b < d.sg.length := hab.2
        rw [eD, eS]
        refine ⟨?_, ?_, ?_⟩
        · show (Pl.shrS [a, b] d.sg).sum = d.sg.sum + 0
          rw [Pl.shrS_two d.sg hab.1 hb]
          unfold Pl.Dg.s at sab
          omega
        · show ((Pl.shrS [a, b] d.sg).length : Int) = d.sg.length + -2
          have := Pl.left_two hab.1 hb
          rw [Pl.shrS_len]
          omega
        · exact shr_sml hs _
    · refine ⟨?_, ?_, ?_⟩
      · show d.sg.sum = d.sg.sum + 0
        omega
      · show (d.sg.length : Int) = d.sg.length + 0
        omega
      · exact hs
  · unfold apC at h
    rw [if_neg hk, if_pos (Pl.vb_false hin)] at h
    exact absurd h (by decide)
end Go.Proofs.Ytobbepmlmbbamaa
end

section
/-
  Walks: the law on signs (MovesSigns).
-/
namespace Go.Proofs.Ytobbepmlmbbamaa
open Go Go.RowKit

theorem small_any (A B : Option Addr) (n q cp cq : Nat) (l : Value) (w : World) : Calls Try.prog 21 #[.agg #[.slice A n cp, .slice B q cq, l]] w fun e w' => (e = .returned (.int .i64 0) ∨ e = .returned (.int .i64 1)) ∧ Below w.heap.size w w' := by
  by_cases h1 : (12 : Int) < (n : Int)
  · go_enter Try.func21, Try.ntmps21
    go_wp2
    go_ret
    exact ⟨.inl rfl, (Below.refl _ _).alloc (Nat.le_refl _) _⟩
  · by_cases h2 : (60 : Int) < (q : Int)
    · go_enter Try.func21, Try.ntmps21
      go_wp2
      go_ret
      exact ⟨.inl rfl, (Below.refl _ _).alloc (Nat.le_refl _) _⟩
    · go_enter Try.func21, Try.ntmps21
      go_wp2
      go_ret
      exact ⟨.inr rfl, (Below.refl _ _).alloc (Nat.le_refl _) _⟩
theorem sm_bd {f : Nat → Int} : ∀ k, (∀ c, c < k → -1 ≤ f c ∧ f c ≤ 1) → -(k : Int) ≤ Pl.sm f k ∧ Pl.sm f k ≤ k
  | 0, _ => ⟨by simp [Pl.sm], by simp [Pl.sm]⟩
  | k + 1, h => by
    have ih := sm_bd k (fun c hc => h c (by omega))
    have := h k (by omega)
    show -((k + 1 : Nat) : Int) ≤ Pl.sm f k + f k ∧ Pl.sm f k + f k ≤ ((k + 1 : Nat) : Int)
    omega
theorem sml_at {l : List Int} (h : Sml l) (c : Nat) : -1 ≤ l.getD c 0 ∧ l.getD c 0 ≤ 1 := by
  rw [List.getD_eq_getElem?_getD]
  cases hc : l[c]? with
  | none => simp
  | some v => exact h v (List.mem_of_getElem? hc)
theorem by_bd {d : Pl.Dg} (hd : Pl.Valid d) (m : Mv) (h : apC d m = 0) : -1 ≤ byK m (apI d m).sign ∧ byK m (apI d m).sign ≤ 1 := by
  obtain ⟨k, x, y, s, o⟩ := m
  by_cases h1 : k = 1
  · subst h1
    have hin : inR d.n ⟨1, x, y, s, o⟩ := by
      by_cases hin : inR d.n ⟨1, x, y, s, o⟩
      · exact hin
      · unfold apC at h; rw [if_neg (show ¬ ((1 : Int) < 1 ∨ 5 < (1 : Int)) by decide), if_pos (Pl.vb_false hin)] at h; exact absurd h (by decide)
    have hsg : s = 1 ∨ s = -1 := by unfold inR at hin; simp at hin; omega
    show -1 ≤ s ∧ s ≤ 1
    omega
  · by_cases h2 : k = 2
    · subst h2
      have := sml_at (wf_sml hd.wf) x.toNat
      show -1 ≤ -(d.sg.getD x.toNat 0) ∧ -(d.sg.getD x.toNat 0) ≤ 1
      omega
    · unfold byK
      simp only [if_neg h1, if_neg h2]
      decide
set_option maxRecDepth 100000 in
set_option maxHeartbeats 4000000 in
theorem signs_valid (d : Pl.Dg) (hd : Pl.Valid d) (A B : Option Addr) (cp cq m : Nat) (k x y s : Int) (o : Bool) (w : World) (hm : m = 4 * d.n) (hg : DgAt w A B d) :
    Calls Try.prog 6 #[.agg #[.slice A d.n cp, .slice B m cq, .int .i64 d.lp], (Mv.mk k x y s o).v] w fun e w' => e = .returned (.bool true) ∧ Below w.heap.size w w' := by
  have hn := hd.wf.few
  have HM := hide hm
  have HG := hide hg
  clear hm hg
  have X0 := hide (show Row ((w.alloc (.cells #[.slice A d.n cp, .slice B m cq, .int .i64 d.lp] 24)).alloc (.cells #[.int .i64 k, .int .i64 x, .int .i64 y, .int .i64 s, .bool o] 28)) w.heap.size 24 [.slice A d.n cp, .slice B m cq, .int .i64 d.lp] from (row_at (vs := [_, _, _]) rfl).alloc _)
  have X1 := hide (show Row ((w.alloc (.cells #[.slice A d.n cp, .slice B m cq, .int .i64 d.lp] 24)).alloc (.cells #[.int .i64 k, .int .i64 x, .int .i64 y, .int .i64 s, .bool o] 28)) (w.heap.size + 1) 28 [.int .i64 k, .int .i64 x, .int .i64 y, .int .i64 s, .bool o] from row_at (vs := [_, _, _, _, _]) (by simp))
  have B0 := hide (show Below w.heap.size w ((w.alloc (.cells #[.slice A d.n cp, .slice B m cq, .int .i64 d.lp] 24)).alloc (.cells #[.int .i64 k, .int .i64 x, .int .i64 y, .int .i64 s, .bool o] 28)) from ((Below.refl _ _).alloc (Nat.le_refl _) _).alloc (by simp) _)
  unfold Mv.v
  go_enter Try.func6, Try.ntmps6
  go_wp2_with fail
  refine (awake_true _).mono ?_
  rintro e w1 ⟨rfl, hb1⟩
  have Y0 := hide (X0.out.below hb1)
  have Y1 := hide (X1.out.below hb1)
  have B1 := hide (B0.out.trans (hb1.mono B0.out.size))
  clear X0 X1 B0 hb1
  obtain ⟨d0, d1, d2, d3⟩ := box3 Y0.out
  go_wp2_with fail
  refine (small_any A B d.n m cp cq (.int .i64 d.lp) w1).mono ?_
  rintro e w2 ⟨he, hb2⟩
  have Z0 := hide (Y0.out.below hb2)
  have Z1 := hide (Y1.out.below hb2)
  have B2 := hide (B1.out.trans (hb2.mono B1.out.size))
  clear Y0 Y1 B1 hb2 d0 d1 d2 d3
  obtain ⟨d0, d1, d2, d3⟩ := box3 Z0.out
  obtain ⟨m0, m1, m2, m3, m4, m5⟩ := box5 Z1.out
  rcases he with rfl | rfl
  · go_wp2
    go_ret
    exact ⟨rfl, B2.out⟩
  · go_wp2_with fail
    refine (apply_any d hd A B cp cq m ⟨k, x, y, s, o⟩ w2 HM.out (HG.out.keep B2.out)).mono ?_
    intro e w3 hres
    have R0 := hide (Z0.out.below hres.2.2)
    have R1 := hide (Z1.out.below hres.2.2)
    have B3 := hide (B2.out.trans (hres.2.2.mono B2.out.size))
    by_cases hc : apC d ⟨k, x, y, s, o⟩ = 0
    · have LAW := hide (signs_law hd ⟨k, x, y, s, o⟩ hc)
      have BD := hide (by_bd hd ⟨k, x, y, s, o⟩ hc)
      obtain ⟨A9, B9, c8, c9, k9, x9, y9, s9, o9, hmv, rfl, hT⟩ := (hres.2.1 hc).split
      have HMV := hide hmv
      have HTs := hide hT.s.row
      clear hc hmv hT hres d0 d1 d2 d3 m0 m1 m2 m3 m4 m5 Z0 Z1 B2
      obtain ⟨r, hr⟩ : ∃ r, r = apD d ⟨k, x, y, s, o⟩ := ⟨_, rfl⟩
      rw [← hr] at HTs LAW ⊢
      clear hr
      obtain ⟨N9, hN9⟩ : ∃ n, n = r.n := ⟨_, rfl⟩
      have HS := hide (show IntsAt w3 A9 N9 r.sg by rw [hN9]; exact HTs.out)
      have HLEN := hide (show r.sg.length = N9 from hN9.symm)
      rw [← hN9]
      clear hN9 HTs
      have hlen9 : (N9 : Int) = d.n + moreK ⟨k, x, y, s, o⟩ := by have := LAW.out.2.1; rw [HLEN.out] at this; exact this
      have hmore : -2 ≤ moreK ⟨k, x, y, s, o⟩ ∧ moreK ⟨k, x, y, s, o⟩ ≤ 2 := by unfold moreK; simp only; (repeat' split) <;> omega
      have hN70 : N9 ≤ 70 := by omega
      have HLN := hide hlen9
      clear hlen9 hmore
      obtain ⟨L9, hL9⟩ : ∃ n, n = r.lp := ⟨_, rfl⟩
      rw [← hL9]
      clear hL9
      have V0 := hide (((Below.refl w3.heap.size w3).alloc (Nat.le_refl _) (.cells #[.slice A9 N9 c8, .slice B9 (4 * N9) c9, .int .i64 (L9 : Int)] 24)).alloc (by simp) (.cells #[.int .i64 k9, .int .i64 x9, .int .i64 y9, .int .i64 s9, .bool o9] 28))
      have P0 := hide (show Row ((w3.alloc (.cells #[.slice A9 N9 c8, .slice B9 (4 * N9) c9, .int .i64 (L9 : Int)] 24)).alloc (.cells #[.int .i64 k9, .int .i64 x9, .int .i64 y9, .int .i64 s9, .bool o9] 28)) w3.heap.size 24 [.slice A9 N9 c8, .slice B9 (4 * N9) c9, .int .i64 (L9 : Int)] from (row_at (vs := [_, _, _]) rfl).alloc _)
      have P1 := hide (show Row ((w3.alloc (.cells #[.slice A9 N9 c8, .slice B9 (4 * N9) c9, .int .i64 (L9 : Int)] 24)).alloc (.cells #[.int .i64 k9, .int .i64 x9, .int .i64 y9, .int .i64 s9, .bool o9] 28)) (w3.heap.size + 1) 28 [.int .i64 k9, .int .i64 x9, .int .i64 y9, .int .i64 s9, .bool o9] from row_at (vs := [_, _, _, _, _]) (by simp))
      go_wp2
      obtain ⟨V, hV⟩ : ∃ V : World, V = ((w3.alloc (.cells #[.slice A9 N9 c8, .slice B9 (4 * N9) c9, .int .i64 (L9 : Int)] 24)).alloc (.cells #[.int .i64 k9, .int .i64 x9, .int .i64 y9, .int .i64 s9, .bool o9] 28)) := ⟨_, rfl⟩
      obtain ⟨go, hgo⟩ : ∃ g, g = w3.heap.size := ⟨_, rfl⟩
      obtain ⟨gb, hgb⟩ : ∃ g, g = w3.heap.size + 1 := ⟨_, rfl⟩
      have Q0 := hide (R0.out.below (show Below w3.heap.size w3 V by rw [hV]; exact V0.out))
      have Q1 := hide (R1.out.below (show Below w3.heap.size w3 V by rw [hV]; exact V0.out))
      have BV := hide (B3.out.trans ((show Below w3.heap.size w3 V by rw [hV]; exact V0.out).mono B3.out.size))
      have HSV := hide (HS.out.keep (show Below w3.heap.size w3 V by rw [hV]; exact V0.out))
      rw [← hV, ← hgo] at P0
      rw [← hV, ← hgb] at P1
      rw [← hgb, ← hgo, ← hV]
      have HDV := hide (HG.out.keep BV.out)
      clear hV hgo hgb V0 R0 R1 B3 HS
      have hsd := wf_sml hd.wf
      have SD := hide (show ∀ c, -1 ≤ d.sg.getD c 0 ∧ d.sg.getD c 0 ≤ 1 from sml_at hsd)
      have SR := hide (show ∀ c, -1 ≤ r.sg.getD c 0 ∧ r.sg.getD c 0 ≤ 1 from sml_at LAW.out.2.2)
      clear hsd
      go_loopg [8, 10] d.n (fun g s8 s10 wx => ∃ q : Nat, q + g = d.n ∧ s10 = .int .i64 (q : Int) ∧ s8 = .int .i64 (Pl.sm (fun c => d.sg.getD c 0) q) ∧ wx = V)
      case atStart => exact ⟨0, by omega, rfl, rfl, rfl⟩
      case round =>
        obtain ⟨q, hkg, rfl, rfl, rfl⟩ := hrel
        have HKG := hide hkg
        obtain ⟨d0, d1, d2, d3⟩ := box3 Q0.out
        have bd := sm_bd (f := fun c => d.sg.getD c 0) q (fun c _ => SD.out c)
        have HST := hide (show Pl.sm (fun c => d.sg.getD c 0) (q + 1) = Pl.sm (fun c => d.sg.getD c 0) q + d.sg.getD q 0 from rfl)
        by_cases hq : q < d.n
        · have hqi : (q : Int) < (d.n : Int) := by omega
          have q0 : (0 : Int) ≤ (q : Int) := by omega
          obtain ⟨b, o', rfl, cs⟩ := HDV.out.s.at_ hq
          have sq := SD.out q
          obtain ⟨a1, ha1⟩ : ∃ a, a = Pl.sm (fun c => d.sg.getD c 0) q := ⟨_, rfl⟩
          obtain ⟨a2, ha2⟩ : ∃ a, a = d.sg.getD q 0 := ⟨_, rfl⟩
          rw [← ha1, ← ha2] at HST
          rw [← ha1] at bd ⊢
          rw [← ha2] at cs sq
          have i1 : -100 ≤ a1 := by omega
          have i2 : a1 ≤ 100 := by omega
          have i3 : -1 ≤ a2 := sq.1
          have i4 : a2 ≤ 1 := sq.2
          clear ha1 ha2 hkg bd sq
          go_wp2
          go_roundg (gk - 1)
          case measure => have := HKG.out; omega
          case rel => exact ⟨q + 1, by have := HKG.out; omega, by go_num, by rw [HST.out], rfl⟩
        · have hqi : ¬ ((q : Int) < (d.n : Int)) := by omega
          have hqn : q = d.sg.length := by show q = d.n; omega
          have bd2 := bd
          obtain ⟨a1, ha1⟩ : ∃ a, a = Pl.sm (fun c => d.sg.getD c 0) q := ⟨_, rfl⟩
          rw [← ha1] at bd ⊢
          have HA := hide (show a1 = d.sg.sum by rw [ha1, hqn, Pl.sm_list])
          have i1 : -100 ≤ a1 := by omega
          have i2 : a1 ≤ 100 := by omega
          clear ha1 hqn bd bd2 HST hkg HKG
          go_wp2
          clear d0 d1 d2 d3
          go_loopg [9, 11] N9 (fun g s9' s11 wx => ∃ q : Nat, q + g = N9 ∧ s11 = .int .i64 (q : Int) ∧ s9' = .int .i64 (Pl.sm (fun c => r.sg.getD c 0) q) ∧ wx = wr)
          case atStart => exact ⟨0, by omega, rfl, rfl, rfl⟩
          case round =>
            obtain ⟨q, hkg, rfl, rfl, rfl⟩ := hrel
            have HKG := hide hkg
            obtain ⟨p0, p1, p2, p3⟩ := box3 P0.out
            have bd := sm_bd (f := fun c => r.sg.getD c 0) q (fun c _ => SR.out c)
            have HST := hide (show Pl.sm (fun c => r.sg.getD c 0) (q + 1) = Pl.sm (fun c => r.sg.getD c 0) q + r.sg.getD q 0 from rfl)
            by_cases hq : q < N9
            · have hqi : (q : Int) < (N9 : Int) := by omega
              have q0 : (0 : Int) ≤ (q : Int) := by omega
              obtain ⟨b, o', rfl, cs⟩ := HSV.out.at_ hq
              have sq := SR.out q
              obtain ⟨a5, ha5⟩ : ∃ a, a = Pl.sm (fun c => r.sg.getD c 0) q := ⟨_, rfl⟩
              obtain ⟨a6, ha6⟩ : ∃ a, a = r.sg.getD q 0 := ⟨_, rfl⟩
              rw [← ha5, ← ha6] at HST
              rw [← ha5] at bd ⊢
              rw [← ha6] at cs sq
              have i3 : -100 ≤ a5 := by omega
              have i4 : a5 ≤ 100 := by omega
              have i5 : -1 ≤ a6 := sq.1
              have i6 : a6 ≤ 1 := sq.2
              clear ha5 ha6 hkg bd sq
              go_wp2
              go_roundg (gk - 1)
              case measure => have := HKG.out; omega
              case rel => exact ⟨q + 1, by have := HKG.out; omega, by go_num, by rw [HST.out], rfl⟩
            · have hqi : ¬ ((q : Int) < (N9 : Int)) := by omega
              have hqn : q = r.sg.length := by rw [HLEN.out]; omega
              obtain ⟨a5, ha5⟩ : ∃ a, a = Pl.sm (fun c => r.sg.getD c 0) q := ⟨_, rfl⟩
              rw [← ha5] at bd ⊢
              have HA5 := hide (show a5 = r.sg.sum by rw [ha5, hqn, Pl.sm_list])
              have EQ := hide (show a5 = a1 + byK ⟨k, x, y, s, o⟩ s9 by
                have h1 := LAW.out.1
                have h2 : (apI d ⟨k, x, y, s, o⟩).sign = s9 := by rw [HMV.out]
                rw [h2] at h1
                rw [HA5.out, HA.out, h1])
              have BD2 := hide (show -1 ≤ byK ⟨k, x, y, s, o⟩ s9 ∧ byK ⟨k, x, y, s, o⟩ s9 ≤ 1 by
                have h1 := BD.out
                have h2 : (apI d ⟨k, x, y, s, o⟩).sign = s9 := by rw [HMV.out]
                rwa [h2] at h1)
              clear ha5 hqn bd HST hkg HKG
              obtain ⟨d0, d1, d2, d3⟩ := box3 Q0.out
              obtain ⟨m0, m1, m2, m3, m4, m5⟩ := box5 Q1.out
              obtain ⟨v0, v1, v2, v3, v4, v5⟩ := box5 P1.out
              by_cases k1 : k = 1
              · subst k1
                have e1 : (a5 == a1 + s) = true := by rw [beq_iff_eq, EQ.out]; rfl
                have e2 : ((N9 : Int) == (d.n : Int) + 1) = true := by rw [beq_iff_eq]; exact HLN.out
                have i3 : -1 ≤ s := BD2.out.1
                have i4 : s ≤ 1 := BD2.out.2
                go_wp2
                go_ret
                exact ⟨rfl, BV.out⟩
              · by_cases k2 : k = 2
                · subst k2
                  have e1 : (a5 == a1 + -s9) = true := by rw [beq_iff_eq, EQ.out]; rfl
                  have e2 : ((N9 : Int) == (d.n : Int) + -1) = true := by rw [beq_iff_eq]; exact HLN.out
                  have e3 : ((N9 : Int) == (d.n : Int) - 1) = true := by rw [beq_iff_eq]; have := HLN.out; exact this
                  have i3 : -1 ≤ -s9 := BD2.out.1
                  have i4 : -s9 ≤ 1 := BD2.out.2
                  have i5 : -1 ≤ s9 := by omega
                  have i6 : s9 ≤ 1 := by omega
                  go_wp2
                  go_ret
                  exact ⟨rfl, BV.out⟩
                · have hby : byK ⟨k, x, y, s, o⟩ s9 = 0 := by unfold byK; simp only [if_neg k1, if_neg k2]
                  have e1 : (a5 == a1) = true := by rw [beq_iff_eq, EQ.out, hby]; omega
                  have t1 : (k == 1) = false := by rw [beq_eq_false_iff_ne]; exact k1
                  have t2 : (k == 2) = false := by rw [beq_eq_false_iff_ne]; exact k2
                  clear hby
                  by_cases k3 : k = 3
                  · subst k3
                    have e2 : ((N9 : Int) == (d.n : Int) + 2) = true := by rw [beq_iff_eq]; exact HLN.out
                    clear k1 k2
                    go_wp2
                    go_ret
                    exact ⟨rfl, BV.out⟩
                  · by_cases k4 : k = 4
                    · subst k4
                      have e2 : ((N9 : Int) == (d.n : Int) + -2) = true := by rw [beq_iff_eq]; exact HLN.out
                      have e3 : ((N9 : Int) == (d.n : Int) - 2) = true := by rw [beq_iff_eq]; have := HLN.out; exact this
                      clear k1 k2 k3
                      go_wp2
                      go_ret
                      exact ⟨rfl, BV.out⟩
                    · have hmo : moreK ⟨k, x, y, s, o⟩ = 0 := by unfold moreK; simp only [if_neg k1, if_neg k2, if_neg k3, if_neg k4]
                      have e2 : ((N9 : Int) == (d.n : Int)) = true := by rw [beq_iff_eq]; have := HLN.out; rw [hmo] at this; omega
                      have t3 : (k == 3) = false := by rw [beq_eq_false_iff_ne]; exact k3
                      have t4 : (k == 4) = false := by rw [beq_eq_false_iff_ne]; exact k4
                      clear hmo k1 k2 k3 k4
                      go_wp2
                      go_ret
                      exact ⟨rfl, BV.out⟩
    · have hE := ResErr.split (hres.1 hc)
      subst hE
      have t1 : (apC d ⟨k, x, y, s, o⟩ != 0) = true := by rw [bne_iff_ne]; exact hc
      clear hc hres
      go_wp2
      go_ret
      exact ⟨rfl, (B3.out.alloc B3.out.size _).alloc (B3.out.alloc B3.out.size _).size _⟩
set_option maxRecDepth 100000 in
set_option maxHeartbeats 4000000 in
theorem signs_bad (sg mt : List Int) (lp : Int) (A B : Option Addr) (n q cp cq : Nat) (k x y s : Int) (o : Bool) (w : World) (hs : IntsAt w A n sg) (hm : IntsAt w B q mt) (hn : n ≤ maxLen) (hq : q ≤ maxLen) (hlp : -9223372036854775808 ≤ lp ∧ lp ≤ 9223372036854775807) (hv : ¬ Pl.VL sg mt lp) :
    Calls Try.prog 6 #[.agg #[.slice A n cp, .slice B q cq, .int .i64 lp], (Mv.mk k x y s o).v] w fun e w' => e = .returned (.bool true) ∧ Below w.heap.size w w' := by
  have X0 := hide (show Row ((w.alloc (.cells #[.slice A n cp, .slice B q cq, .int .i64 lp] 24)).alloc (.cells #[.int .i64 k, .int .i64 x, .int .i64 y, .int .i64 s, .bool o] 28)) w.heap.size 24 [.slice A n cp, .slice B q cq, .int .i64 lp] from (row_at (vs := [_, _, _]) rfl).alloc _)
  have X1 := hide (show Row ((w.alloc (.cells #[.slice A n cp, .slice B q cq, .int .i64 lp] 24)).alloc (.cells #[.int .i64 k, .int .i64 x, .int .i64 y, .int .i64 s, .bool o] 28)) (w.heap.size + 1) 28 [.int .i64 k, .int .i64 x, .int .i64 y, .int .i64 s, .bool o] from row_at (vs := [_, _, _, _, _]) (by simp))
  have B0 := hide (show Below w.heap.size w ((w.alloc (.cells #[.slice A n cp, .slice B q cq, .int .i64 lp] 24)).alloc (.cells #[.int .i64 k, .int .i64 x, .int .i64 y, .int .i64 s, .bool o] 28)) from ((Below.refl _ _).alloc (Nat.le_refl _) _).alloc (by simp) _)
  unfold Mv.v
  go_enter Try.func6, Try.ntmps6
  go_wp2_with fail
  refine (awake_true _).mono ?_
  rintro e w1 ⟨rfl, hb1⟩
  have Y0 := hide (X0.out.below hb1)
  have Y1 := hide (X1.out.below hb1)
  have B1 := hide (B0.out.trans (hb1.mono B0.out.size))
  clear X0 X1 B0 hb1
  obtain ⟨d0, d1, d2, d3⟩ := box3 Y0.out
  go_wp2_with fail
  refine (small_any A B n q cp cq (.int .i64 lp) w1).mono ?_
  rintro e w2 ⟨he, hb2⟩
  have Z0 := hide (Y0.out.below hb2)
  have Z1 := hide (Y1.out.below hb2)
  have B2 := hide (B1.out.trans (hb2.mono B1.out.size))
  clear Y0 Y1 B1 hb2 d0 d1 d2 d3
  obtain ⟨d0, d1, d2, d3⟩ := box3 Z0.out
  obtain ⟨m0, m1, m2, m3, m4, m5⟩ := box5 Z1.out
  rcases he with rfl | rfl
  · go_wp2
    go_ret
    exact ⟨rfl, B2.out⟩
  · go_wp2_with fail
    refine (apply_v sg mt lp A B n q cp cq k x y s o w2 (hs.keep B2.out) (hm.keep B2.out) hn hq hlp hv).mono ?_
    rintro e w3 ⟨hE, hb3⟩
    have B3 := hide (B2.out.trans (hb3.mono B2.out.size))
    have hE' := ResErr.split hE
    subst hE'
    clear hE
    go_wp2
    go_ret
    exact ⟨rfl, (B3.out.alloc B3.out.size _).alloc (B3.out.alloc B3.out.size _).size _⟩
theorem signs_walk (sg mt : List Int) (lp : Int) (A B : Option Addr) (n q cp cq : Nat) (k x y s : Int) (o : Bool) (w : World) (hs : IntsAt w A n sg) (hm : IntsAt w B q mt) (hn : n ≤ maxLen) (hq : q ≤ maxLen) (hlp : -9223372036854775808 ≤ lp ∧ lp ≤ 9223372036854775807) :
    Calls Try.prog 6 #[.agg #[.slice A n cp, .slice B q cq, .int .i64 lp], (Mv.mk k x y s o).v] w fun e w' => e = .returned (.bool true) ∧ Below w.heap.size w w' := by
  by_cases hv : Pl.VL sg mt lp
  · have hl := hs.len
    have hl2 := hm.len
    have hl3 := hv.len
    have en : (Pl.mk sg mt lp).n = n := hl
    have em : nats (Pl.mk sg mt lp).mt = mt := Pl.nats_mk hv.2.1
    have el : ((Pl.mk sg mt lp).lp : Int) = lp := by show ((lp.toNat : Nat) : Int) = lp; have := hv.2.2; omega
    have h := signs_valid (Pl.mk sg mt lp) hv.1 A B cp cq q k x y s o w (by rw [en]; omega) ⟨by rw [en]; exact hs, by rw [en, em, show 4 * n = q by omega]; exact hm⟩
    rw [en, el] at h
    exact h
  · exact signs_bad sg mt lp A B n q cp cq k x y s o w hs hm hn hq hlp hv
end Go.Proofs.Ytobbepmlmbbamaa
end

section
/-
  A diagram and a move that came in, opened.
-/
namespace Go.Proofs.Ytobbepmlmbbamaa
open Go Go.ChangeShapes Go.WideShapes Go.ChangeAt Go.RowKit Go.Deep

theorem spot_noneM {w : World} {a : Addr} {v : Value} (h : w.cell? a = some v) : a = ⟨a.block, a.off, none⟩ := by
  obtain ⟨b, o, sp⟩ := a
  cases sp with
  | none => rfl
  | some s =>
    unfold World.cell? at h
    simp only at h
    split at h
    · simp at h
    · cases h
theorem addr_formM {w : World} {a : Addr} {v : Value} (h : w.cell? (a.add 0) = some v) : ∃ b o, a = ⟨b, o, none⟩ := ⟨_, _, spot_noneM h⟩
section
variable {H : Type} {enc : TypeId × Value → H} {w : World} {base : Nat} {spare : Nat → Bool} {held : Bool} {fuel : Nat}
theorem ints_of_trod {v : Value} {y : DataW H × List MemPlace} (h : DataW.trod enc Try.prog w base spare held fuel 22 [v] = some y) : ∃ (A : Option Addr) (n c : Nat) (xs : List Int), v = .slice A n c ∧ n ≤ maxLen ∧ IntsAt w A n xs := by
  rcases open_ints Try.underlying22 Try.underlying3 (by kernel_rfl) h with ⟨h1, _⟩ | ⟨a, len, cap, zs, h1, _, hl, hm, hsl, _, hc, _⟩
  · obtain rfl : v = .slice none 0 0 := by simpa using h1
    exact ⟨none, 0, 0, [], rfl, by unfold maxLen; omega, RowAt.nil w⟩
  · obtain rfl : v = .slice (some a) len cap := by simpa using h1
    have hle : len ≤ zs.length := by rw [hsl]; split <;> omega
    refine ⟨some a, len, cap, zs.take len, rfl, by omega, by simp; omega, fun hn => ?_⟩
    obtain ⟨b, o, rfl⟩ := addr_formM (hc 0 (by omega))
    refine ⟨b, o, rfl, fun j u hu => ?_⟩
    rw [List.getElem?_map] at hu
    obtain ⟨s, hs, rfl⟩ := Option.map_eq_some_iff.1 hu
    have hj : j < len := by
      rcases Nat.lt_or_ge j len with h | h
      · exact h
      · rw [List.getElem?_eq_none (by simp; omega)] at hs; cases hs
    have := hc j (by omega)
    rw [Addr.add_lit] at this
    rw [this]
    rw [List.getElem?_take_of_lt hj] at hs
    rw [List.getD_eq_getElem?_getD, hs]
    rfl
theorem int_of_trod {v : Value} {y : DataW H × List MemPlace} (h : DataW.trod enc Try.prog w base spare held fuel 3 [v] = some y) : ∃ n : Int, v = .int .i64 n ∧ -9223372036854775808 ≤ n ∧ n ≤ 9223372036854775807 := by
  obtain ⟨n, h1, _, hw⟩ := DataW.trod_int Try.underlying3 h
  obtain rfl : v = .int .i64 n := by simpa using h1
  refine ⟨n, rfl, ?_⟩
  simp only [Lit.wf, Bool.and_eq_true, decide_eq_true_eq] at hw
  have h1 : (IntKind.i64.min : Int) = -9223372036854775808 := by rfl
  have h2 : (IntKind.i64.max : Int) = 9223372036854775807 := by rfl
  rw [h1, h2] at hw
  exact hw
theorem bool_of_trod {v : Value} {y : DataW H × List MemPlace} (h : DataW.trod enc Try.prog w base spare held fuel 4 [v] = some y) : ∃ b : Bool, v = .bool b := by
  obtain ⟨b, h1, _⟩ := DataW.trod_bool Try.underlying4 h
  exact ⟨b, by simpa using h1⟩
set_option maxRecDepth 100000 in
theorem open_dg {r : Reach} {b0 : Nat} {v : Value} {d : DataW H} {p : List MemPlace} (hval : Value.okWide Try.prog w r b0 24 v) (h : DataW.Trod enc Try.prog w base spare held 24 v d p) :
    ∃ (A B : Option Addr) (n q cp cq : Nat) (sg mt : List Int) (lp : Int), v = .agg #[.slice A n cp, .slice B q cq, .int .i64 lp] ∧ n ≤ maxLen ∧ q ≤ maxLen ∧ IntsAt w A n sg ∧ IntsAt w B q mt ∧ -9223372036854775808 ≤ lp ∧ lp ≤ 9223372036854775807 := by
  obtain ⟨cs, rfl, hsz⟩ := okWide_struct Try.underlying24 hval
  obtain ⟨fuel, hf⟩ := h
  obtain ⟨c0, c1, c2, rfl⟩ : ∃ c0 c1 c2, cs = #[c0, c1, c2] := by
    have h3 : cs.size = 3 := hsz.trans (by kernel_rfl)
    obtain ⟨l⟩ := cs
    match l, h3 with
    | [a, b, c], _ => exact ⟨a, b, c, rfl⟩
  have hf' : DataW.trod enc Try.prog w base spare held fuel 24 [c0, c1, c2] = some (d, p) := hf
  obtain ⟨xs, n', _, _, _, hxl, hfld⟩ := DataW.trod_struct Try.underlying24 hf'
  have c22 : Try.prog.cellsOf 22 = 1 := by kernel_rfl
  have c3 : Try.prog.cellsOf 3 = 1 := by kernel_rfl
  have g0 : DataW.trod enc Try.prog w base spare held n' 22 (([c0, c1, c2].drop 0).take (Try.prog.cellsOf 22)) = xs[0]? := hfld 0 _ rfl
  have g1 : DataW.trod enc Try.prog w base spare held n' 22 (([c0, c1, c2].drop 1).take (Try.prog.cellsOf 22)) = xs[1]? := hfld 1 _ rfl
  have g2 : DataW.trod enc Try.prog w base spare held n' 3 (([c0, c1, c2].drop 2).take (Try.prog.cellsOf 3)) = xs[2]? := hfld 2 _ rfl
  rw [c22] at g0 g1
  rw [c3] at g2
  simp only [List.drop_zero, List.drop_succ_cons, List.take_succ_cons, List.take_zero] at g0 g1 g2
  have x0 : xs[0]? = some (xs[0]'(by rw [hxl]; decide)) := List.getElem?_eq_getElem _
  have x1 : xs[1]? = some (xs[1]'(by rw [hxl]; decide)) := List.getElem?_eq_getElem _
  have x2 : xs[2]? = some (xs[2]'(by rw [hxl]; decide)) := List.getElem?_eq_getElem _
  rw [x0] at g0
  rw [x1] at g1
  rw [x2] at g2
  obtain ⟨A, n, cp, sg, rfl, hn, hs⟩ := ints_of_trod g0
  obtain ⟨B, q, cq, mt, rfl, hq, hm⟩ := ints_of_trod g1
  obtain ⟨lp, rfl, h1, h2⟩ := int_of_trod g2
  exact ⟨A, B, n, q, cp, cq, sg, mt, lp, rfl, hn, hq, hs, hm, h1, h2⟩
set_option maxRecDepth 100000 in
theorem open_mv {r : Reach} {b0 : Nat} {v : Value} {d : DataW H} {p : List MemPlace} (hval : Value.okWide Try.prog w r b0 28 v) (h : DataW.Trod enc Try.prog w base spare held 28 v d p) :
    ∃ (k x y s : Int) (o : Bool), v = (Mv.mk k x y s o).v := by
  obtain ⟨cs, rfl, hsz⟩ := okWide_struct Try.underlying28 hval
  obtain ⟨fuel, hf⟩ := h
  obtain ⟨c0, c1, c2, c3', c4, rfl⟩ : ∃ c0 c1 c2 c3 c4, cs = #[c0, c1, c2, c3, c4] := by
    have h3 : cs.size = 5 := hsz.trans (by kernel_rfl)
    obtain ⟨l⟩ := cs
    match l, h3 with
    | [a, b, c, d, e], _ => exact ⟨a, b, c, d, e, rfl⟩
  have hf' : DataW.trod enc Try.prog w base spare held fuel 28 [c0, c1, c2, c3', c4] = some (d, p) := hf
  obtain ⟨xs, n', _, _, _, hxl, hfld⟩ := DataW.trod_struct Try.underlying28 hf'
  have e4 : Try.prog.cellsOf 4 = 1 := by kernel_rfl
  have e3 : Try.prog.cellsOf 3 = 1 := by kernel_rfl
  have g0 : DataW.trod enc Try.prog w base spare held n' 3 (([c0, c1, c2, c3', c4].drop 0).take (Try.prog.cellsOf 3)) = xs[0]? := hfld 0 _ rfl
  have g1 : DataW.trod enc Try.prog w base spare held n' 3 (([c0, c1, c2, c3', c4].drop 1).take (Try.prog.cellsOf 3)) = xs[1]? := hfld 1 _ rfl
  have g2 : DataW.trod enc Try.prog w base spare held n' 3 (([c0, c1, c2, c3', c4].drop 2).take (Try.prog.cellsOf 3)) = xs[2]? := hfld 2 _ rfl
  have g3 : DataW.trod enc Try.prog w base spare held n' 3 (([c0, c1, c2, c3', c4].drop 3).take (Try.prog.cellsOf 3)) = xs[3]? := hfld 3 _ rfl
  have g4 : DataW.trod enc Try.prog w base spare held n' 4 (([c0, c1, c2, c3', c4].drop 4).take (Try.prog.cellsOf 4)) = xs[4]? := hfld 4 _ rfl
  rw [e3] at g0 g1 g2 g3
  rw [e4] at g4
  simp only [List.drop_zero, List.drop_succ_cons, List.take_succ_cons, List.take_zero] at g0 g1 g2 g3 g4
  have x0 : xs[0]? = some (xs[0]'(by rw [hxl]; decide)) := List.getElem?_eq_getElem _
  have x1 : xs[1]? = some (xs[1]'(by rw [hxl]; decide)) := List.getElem?_eq_getElem _
  have x2 : xs[2]? = some (xs[2]'(by rw [hxl]; decide)) := List.getElem?_eq_getElem _
  have x3 : xs[3]? = some (xs[3]'(by rw [hxl]; decide)) := List.getElem?_eq_getElem _
  have x4 : xs[4]? = some (xs[4]'(by rw [hxl]; decide)) := List.getElem?_eq_getElem _
  rw [x0] at g0
  rw [x1] at g1
  rw [x2] at g2
  rw [x3] at g3
  rw [x4] at g4
  obtain ⟨k, rfl, _⟩ := int_of_trod g0
  obtain ⟨x, rfl, _⟩ := int_of_trod g1
  obtain ⟨y, rfl, _⟩ := int_of_trod g2
  obtain ⟨s, rfl, _⟩ := int_of_trod g3
  obtain ⟨o, rfl⟩ := bool_of_trod g4
  exact ⟨k, x, y, s, o, rfl⟩
end
end Go.Proofs.Ytobbepmlmbbamaa
end

section
/-
  For every diagram and move, valid or not: MovesSigns returns true and leaves its argument as it was. No condition.
-/
namespace Go.Proofs.Ytobbepmlmbbamaa.pMovesSigns
open Go.ChangeShapes Go.WideShapes Go.ChangeAt Go.RowKit

theorem own : ownKnob Try.prog.godebug = none := by kernel_rfl
theorem laidOut : laidOutB Try.prog = true := by kernel_rfl

/-! ### THE ROW's STEP: WRITTEN OUT: LEAVE IT -/
set_option maxRecDepth 100000 in
set_option maxHeartbeats 2000000 in
theorem lifted (os : Os) (started : os.Started) (H : Type) (enc : TypeId × Value → H) :
    ReturnsInHanded {} Try.checked os 6 .any (Rows.movesSignsSpec.pre6 enc Try.prog Try.f6 Rows.movesSignsRow.domain false) (Rows.movesSignsSpec.post enc Try.prog Try.f6 false true false false) := by
  refine returnsInHanded_of_change (C := Try.checked) own started (by kernel_rfl) Try.func6
    (ChangeSpec.witness6 (enc := enc) (C := Try.checked) false ⟨#[], #[.agg #[.slice none 0 0, .slice none 0 0, .int .i64 0], .agg #[.int .i64 0, .int .i64 0, .int .i64 0, .int .i64 0, .bool false]], []⟩ 8 (by kernel_rfl) (by kernel_rfl) (by kernel_rfl) (by kernel_rfl)) ?_
  intro W base args ds gs before hval0 hW hcnd _
  have hval : ∀ (j : Nat) t v, Try.f6.params[j]? = some t → args[j]? = some v → Value.okWide Try.prog W .any base t v := hval0
  have hW' := hW
  obtain ⟨p, q, hA0, hV, rfl, hfz, hnd⟩ := hW
  have hA : DataW.TrodAll enc Try.prog W 0 (fun _ => true) true Try.f6.params.toList args.toList ds p := hA0
  rw [Try.params6] at hA hval
  obtain ⟨v0, v1, d0, d1, p0, p1, hargs, rfl, rfl, h0, h1⟩ := trodAll_two hA
  obtain rfl : args = #[v0, v1] := by cases args; simp_all
  obtain ⟨rfl, rfl⟩ := trodVars_none hV
  obtain ⟨A, B, n, q', cp, cq, sg, mt, lp, rfl, hn, hq, hs, hm, hlp⟩ := open_dg (hval 0 _ v0 rfl rfl) h0
  obtain ⟨k, x, y, sn, o, rfl⟩ := open_mv (hval 1 _ v1 rfl rfl) h1
  clear hA0 hval0
  simp only [List.append_nil] at hW'
  have hlt : ∀ z ∈ p0 ++ p1, z.block < W.heap.size := fun z hz => hW'.lt z hz
  refine (signs_walk sg mt lp A B n q' cp cq k x y sn o W hs hm hn hq hlp).mono fun e W' ⟨he, hb⟩ => ?_
  subst he
  exact ⟨_, rfl, post_of_below (pa := p0 ++ p1) (pv := []) hW' (fun _ _ _ => (trodAll_cons_mk (shut_bool Try.underlying4 _) trodAll_mk0))
    (fun sp hsp => trodAll_mk2 (WideElems.Trod_stays laidOut (by kernel_rfl) (of_decide_eq_true (by kernel_rfl)) h0 (fun z hz => hb.same (hlt z (List.mem_append_left _ hz))) (fun z hz => hsp z (by simp [hz])))
      (WideElems.Trod_stays laidOut (by kernel_rfl) (of_decide_eq_true (by kernel_rfl)) h1 (fun z hz => hb.same (hlt z (List.mem_append_right _ hz))) (fun z hz => hsp z (by simp [hz])))) (fun _ _ => rfl) (by simp) hb
    (ok_one (by kernel_rfl) rfl (okWide_bool_mk Try.underlying4 _))⟩

theorem over : Rows.movesSignsRow.holds Try.pinned (OpenSpec.ofChange Rows.movesSignsSpec) :=
  OpenClaim.holds_of_wide 6 Try.f6 rfl rfl rfl rfl rfl rfl rfl ⟨rfl, rfl, rfl, rfl, rfl⟩ rfl rfl rfl rfl rfl (by kernel_rfl) Try.func6 (by kernel_rfl)
    (of_decide_eq_true (by kernel_rfl)) (by unfold Func.isWrapper; first | (rw [if_pos (by decide +kernel)]; kernel_rfl) | (rw [if_neg (by decide +kernel)]; exact ⟨rfl, rfl⟩))
    (fun os started H enc _ => lifted os started H enc)

/-- ████ THE STATEMENT ████ -/
theorem proved : Rows.MovesSignsSaid :=
  over
#print axioms proved
end Go.Proofs.Ytobbepmlmbbamaa.pMovesSigns
end
