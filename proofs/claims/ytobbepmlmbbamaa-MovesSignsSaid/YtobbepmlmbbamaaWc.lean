/-
  Walks: the rule of faces.
-/
import Derived.Test.YtobbepmlmbbamaaWb
import Derived.Test.YtobbepmlmbbamaaSph
namespace Go.Proofs.Ytobbepmlmbbamaa
open Go.RowKit

set_option maxRecDepth 100000 in
set_option maxHeartbeats 4000000 in
theorem spherical_any (d : Pl.Dg) (hd : Pl.Wf d) (A B : Option Addr) (cp cq : Nat) (l : Value) (w : World) (hl : l = .int .i64 d.lp) (hg : DgAt w A B d) :
    Calls Try.prog 59 #[.agg #[.slice A d.n cp, .slice B (4 * d.n) cq, l]] w fun e w' => e = .returned (.bool (Pl.vb (Pl.Rule d))) ∧ Below w.heap.size w w' := by
  subst hl
  have hn := hd.few
  have HF := hide hd
  clear hd
  obtain ⟨m, hm⟩ : ∃ m, m = 4 * d.n := ⟨_, rfl⟩
  rw [← hm]
  have HM := hide hm
  have hm6 : m ≤ 256 := by omega
  clear hm
  go_enter Try.func59, Try.ntmps59
  go_wp2_with fail
  have b0 : Below w.heap.size w (w.alloc (.cells #[.slice A d.n cp, .slice B m cq, .int .i64 d.lp] 24)) := (Below.refl _ _).alloc (Nat.le_refl _) _
  have x0 : Row (w.alloc (.cells #[.slice A d.n cp, .slice B m cq, .int .i64 d.lp] 24)) w.heap.size 24 (boxV A B d.n cp m cq (.int .i64 d.lp)) := Row.new w _ _
  refine (label_m d HF.out A B cp cq m _ _ HM.out (hg.keep b0)).mono ?_
  rintro e w1 ⟨ps, P, g, rfl, hlb, hall, hgb, hrow, hb1⟩
  have X1 := hide (x0.below hb1)
  have B1 := hide (b0.trans (hb1.mono (by simp)))
  have hPn := hlb.le
  have HLB := hide hlb
  have HALL := hide hall
  have HLen := hide hlb.len
  have R1 := hide hrow
  have hg0 : w.heap.size + 1 ≤ g := by simpa using hgb
  have hg1 : g < w1.heap.size := hrow.lt
  clear b0 x0 hb1 hlb hall hrow hgb
  have hmk := run_ints P (by omega) w1
  go_wp2
  clear hmk
  obtain ⟨W2, hW2⟩ : ∃ W2 : World, W2 = w1.alloc (.cells (Array.replicate P (Value.int .i64 0)) 3) := ⟨_, rfl⟩
  have B2 := hide (show Below w.heap.size w W2 by rw [hW2]; exact B1.out.alloc (by omega) _)
  have X2 := hide (show Row W2 w.heap.size 24 (boxV A B d.n cp m cq (.int .i64 d.lp)) by rw [hW2]; exact X1.out.alloc _)
  have R2 := hide (show IRow W2 g ps by rw [hW2]; exact Row.alloc R1.out _)
  have E2 := hide (show IRow W2 w1.heap.size (List.replicate P 0) by rw [hW2]; exact IRow.made w1 P)
  rw [← hW2]
  clear hW2 B1 X1 R1
  generalize w1.heap.size = eb at hg1 E2 ⊢
  go_loopg [22] d.n (fun g' i wx => ∃ (k : Nat) (es : List Int), k + g' = d.n ∧ i = .int .i64 k ∧ Pl.Ex d ps es P k 0 ∧ Below w.heap.size w wx ∧ Row wx w.heap.size 24 (boxV A B d.n cp m cq (.int .i64 d.lp)) ∧ IRow wx g ps ∧ IRow wx eb es)
  case atStart => exact ⟨0, _, by omega, rfl, Pl.Ex.start d ps P, B2.out, X2.out, R2.out, E2.out⟩
  case round =>
    clear B2 X2 R2 E2
    obtain ⟨k, es, hkg, rfl, hex, b3, x3, r3, e3⟩ := hrel
    have HG := hide hkg
    have HE := hide hex
    have hks : k ≤ d.n := by omega
    have hel := hex.1
    have HEL := hide hel
    clear hkg hex
    by_cases hlt : k < d.n
    · obtain ⟨q, hq⟩ : ∃ q : Nat, Pl.pv ps k = q := ⟨(Pl.pv ps k).toNat, by have := HALL.out k hlt; omega⟩
      have hqP : q < P := by have := (HLB.out.lo k hlt).2; omega
      have c1 := r3.cell (i := k) (by have := HLen.out; omega)
      rw [hq] at c1
      have c2 := e3.cell (i := q) (by omega)
      have f2 := Row.free e3 q
      have hlo : -1000 ≤ Pl.pv es q ∧ Pl.pv es q ≤ 1000 := by
        have h1 := HE.out.2 q hqP
        have h2 : Pl.nf d ps q 0 = 0 := rfl
        have h3 : Pl.nv ps q k ≤ k := Pl.cnt_top _ k
        omega
      have HQ := hide hq
      have B3 := hide b3
      have X3 := hide x3
      have R3 := hide r3
      have E3 := hide e3
      clear hq b3 x3 r3 e3 hel
      go_wp2
      go_roundg (gk - 1)
      case measure => have := HG.out; omega
      case rel =>
        refine ⟨k + 1, _, by have := HG.out; omega, by go_num, HE.out.less hqP HQ.out, B3.out.setCell (by simp; omega) _, X3.out.other (by simp; omega) _, Row.other R3.out (by simp; omega) _, E3.out.set q (Pl.pv es q - 1)⟩
    · have hkn : k = d.n := by omega
      have HE' := hide (show Pl.Ex d ps es P d.n 0 by have := HE.out; rw [hkn] at this; exact this)
      have hmk2 := run_bools m (by omega) wr
      have B3 := hide b3
      have X3 := hide x3
      have R3 := hide r3
      have E3 := hide e3
      have x3c : wr.cell? ⟨w.heap.size, 1, none⟩ = some (.slice B m cq) := x3.cell (i := 1) (by show 1 < 3; omega)
      have ewz : eb < wr.heap.size := e3.lt
      have x3d : (wr.alloc (.cells (Array.replicate m (Value.bool false)) 4)).cell? ⟨w.heap.size, 1, none⟩ = some (.slice B m cq) := (x3.alloc _).cell (i := 1) (by show 1 < 3; omega)
      clear b3 x3 r3 e3 hkn HE hel
      go_wp2
      clear hmk2 x3c x3d
      obtain ⟨W4, hW4⟩ : ∃ W4 : World, W4 = wr.alloc (.cells (Array.replicate m (Value.bool false)) 4) := ⟨_, rfl⟩
      have B4 := hide (show Below w.heap.size w W4 by rw [hW4]; exact B3.out.alloc (by omega) _)
      have X4 := hide (show Row W4 w.heap.size 24 (boxV A B d.n cp m cq (.int .i64 d.lp)) by rw [hW4]; exact X3.out.alloc _)
      have R4 := hide (show IRow W4 g ps by rw [hW4]; exact Row.alloc R3.out _)
      have E4 := hide (show IRow W4 eb es by rw [hW4]; exact Row.alloc E3.out _)
      have S4 := hide (show BRow W4 wr.heap.size (List.replicate (4 * d.n) false) by rw [hW4, ← HM.out]; exact BRow.made wr m)
      rw [← hW4]
      clear hW4 B3 X3 R3 E3
      generalize wr.heap.size = sb at ewz S4 ⊢
      go_loopg [40] m (fun g' i wx => ∃ (k : Nat) (es : List Int) (bs : List Bool), k + g' = m ∧ i = .int .i64 k ∧ Pl.Ex d ps es P d.n k ∧ Pl.SQ d k bs ∧ Below w.heap.size w wx ∧ Row wx w.heap.size 24 (boxV A B d.n cp m cq (.int .i64 d.lp)) ∧ IRow wx g ps ∧ IRow wx eb es ∧ BRow wx sb bs)
      case atStart => exact ⟨0, es, _, by omega, rfl, HE'.out, Pl.SQ.start d, B4.out, X4.out, R4.out, E4.out, S4.out⟩
      case round =>
        clear B4 X4 R4 E4 S4 HG HEL HE'
        obtain ⟨j, e5, bs, hjg, rfl, hex, hsq, b6, x6, r6, e6, s6⟩ := hrel
        have HG := hide hjg
        have HE := hide hex
        have HS := hide hsq
        have hjs : j ≤ m := by omega
        have HEL := hide hex.1
        have HSL := hide hsq.len
        clear hjg hex hsq
        by_cases hjm : j < m
        · have hj4 : j < 4 * d.n := by have := HM.out; omega
          have c1 := s6.cell (i := j) (by have := HSL.out; omega)
          by_cases hseen : Pl.gb bs j = true
          · have c1' : wr.cell? ⟨sb, j, none⟩ = some (.bool true) := by rw [c1]; exact congrArg (fun b => some (Value.bool b)) hseen
            have B6 := hide b6
            have X6 := hide x6
            have R6 := hide r6
            have E6 := hide e6
            have S6 := hide s6
            have HSE := hide (HS.out.seen HF.out hj4 hseen)
            clear c1 b6 x6 r6 e6 s6 hseen
            go_wp2
            go_roundg (gk - 1)
            case measure => have := HG.out; omega
            case rel => exact ⟨j + 1, e5, bs, by have := HG.out; omega, by go_num, HE.out.same HSE.out.2, HSE.out.1, B6.out, X6.out, R6.out, E6.out, S6.out⟩
          · have hseen' : Pl.gb bs j = false := by simpa using hseen
            have c1' : wr.cell? ⟨sb, j, none⟩ = some (.bool false) := by rw [c1]; exact congrArg (fun b => some (Value.bool b)) hseen'
            have HSE := hide (HS.out.enter HF.out hj4 hseen')
            have hj4' : j / 4 < d.n := by omega
            obtain ⟨q, hq⟩ : ∃ q : Nat, Pl.pv ps (j / 4) = q := ⟨(Pl.pv ps (j / 4)).toNat, by have := HALL.out (j / 4) hj4'; omega⟩
            have hqP : q < P := by have := (HLB.out.lo (j / 4) hj4').2; omega
            have c2 := r6.cell (i := j / 4) (by have := HLen.out; omega)
            rw [hq] at c2
            have c3 := e6.cell (i := q) (by have := HEL.out; omega)
            have f3 := Row.free e6 q
            have hlo : -1000 ≤ Pl.pv e5 q ∧ Pl.pv e5 q ≤ 1000 := by
              have h1 := HE.out.2 q hqP
              have h2 : Pl.nf d ps q j ≤ j := Pl.cnt_top _ j
              have h3 : Pl.nv ps q d.n ≤ d.n := Pl.cnt_top _ d.n
              omega
            have HQ := hide hq
            have B6 := hide b6
            have X6 := hide x6
            have R6 := hide r6
            have E6 := hide e6
            have S6 := hide s6
            obtain ⟨wo, rfl⟩ : ∃ wo : World, wo = wr := ⟨_, rfl⟩
            clear c1 b6 x6 r6 e6 s6 hseen hseen' hq
            go_wp2
            obtain ⟨W5, hW5⟩ : ∃ W5 : World, W5 = wo.setCell ⟨eb, q, none⟩ (.int .i64 (Pl.pv e5 q + 1)) := ⟨_, rfl⟩
            have B7 := hide (show Below w.heap.size w W5 by rw [hW5]; exact B6.out.setCell (by simp; omega) _)
            have X7 := hide (show Row W5 w.heap.size 24 (boxV A B d.n cp m cq (.int .i64 d.lp)) by rw [hW5]; exact X6.out.other (by simp; omega) _)
            have R7 := hide (show IRow W5 g ps by rw [hW5]; exact Row.other R6.out (by simp; omega) _)
            have E7 := hide (show IRow W5 eb (e5.set q (Pl.pv e5 q + 1)) by rw [hW5]; exact E6.out.set q _)
            have S7 := hide (show BRow W5 sb bs by rw [hW5]; exact Row.other S6.out (by simp; omega) _)
            rw [← hW5]
            clear hW5 B6 X6 R6 E6 S6 c1' c2 c3 f3
            go_loopg [10] (Pl.uns bs) (fun g' v wx => ∃ (i : Nat) (b8 : List Bool), g' = Pl.uns b8 ∧ v = .int .i64 (Pl.it (Pl.nx d) i j : Nat) ∧ Pl.SI d j i b8 ∧ Below w.heap.size w wx ∧ Row wx w.heap.size 24 (boxV A B d.n cp m cq (.int .i64 d.lp)) ∧ IRow wx g ps ∧ IRow wx eb (e5.set q (Pl.pv e5 q + 1)) ∧ BRow wx sb b8)
            case atStart => exact ⟨0, bs, rfl, rfl, HSE.out.1, B7.out, X7.out, R7.out, E7.out, S7.out⟩
            case round =>
              clear B7 X7 R7 E7 S7
              obtain ⟨i, b8, hgk, rfl, hsi, b9, x9, r9, e9, s9⟩ := hrel
              have HGK := hide hgk
              have HSI := hide hsi
              have HSZ := hide hsi.len
              have hcur4 := hsi.lt HF.out
              clear hgk hsi
              obtain ⟨cur, hcur⟩ : ∃ cur, cur = Pl.it (Pl.nx d) i j := ⟨_, rfl⟩
              rw [← hcur] at hcur4 ⊢
              have HC := hide hcur
              clear hcur
              have hcm : cur < m := by have := HM.out; omega
              have c1 := s9.cell (i := cur) (by have := HSZ.out; omega)
              have f1 := Row.free s9 cur
              by_cases hseen : Pl.gb b8 cur = true
              · have c1' : wr.cell? ⟨sb, cur, none⟩ = some (.bool true) := by rw [c1]; exact congrArg (fun b => some (Value.bool b)) hseen
                have HD := hide (HSI.out.done HF.out (by rw [← HC.out]; exact hseen))
                have B9 := hide b9
                have X9 := hide x9
                have R9 := hide r9
                have E9 := hide e9
                have S9 := hide s9
                clear c1 f1 b9 x9 r9 e9 s9 hseen
                go_wp2
                go_roundg (m - (j + 1))
                case measure => have := HG.out; omega
                case rel => exact ⟨j + 1, _, b8, by omega, by go_num, HE.out.more hqP HQ.out HSE.out.2, HD.out, B9.out, X9.out, R9.out, E9.out, S9.out⟩
              · have hseen' : Pl.gb b8 cur = false := by simpa using hseen
                have c1' : wr.cell? ⟨sb, cur, none⟩ = some (.bool false) := by rw [c1]; exact congrArg (fun b => some (Value.bool b)) hseen'
                obtain ⟨bb, bo, rfl, hmc⟩ := mate_at hg.m hcur4
                have hml := HF.out.lt _ hcur4
                have b10 : Below w.heap.size w (wr.setCell ⟨sb, cur, none⟩ (.bool true)) := b9.setCell (by simp; omega) _
                have c2 := cell_below hmc b10
                have x10 : Row (wr.setCell ⟨sb, cur, none⟩ (.bool true)) w.heap.size 24 (boxV A (some ⟨bb, bo, none⟩) d.n cp m cq (.int .i64 d.lp)) := x9.other (by simp; omega) _
                have c3 : (wr.setCell ⟨sb, cur, none⟩ (.bool true)).cell? ⟨w.heap.size, 1, none⟩ = some (.slice (some ⟨bb, bo, none⟩) m cq) := x10.cell (i := 1) (by show 1 < 3; omega)
                have B9 := hide b10
                have X9 := hide x10
                have R9 := hide (show IRow (wr.setCell ⟨sb, cur, none⟩ (.bool true)) g ps from Row.other r9 (by simp; omega) _)
                have E9 := hide (show IRow (wr.setCell ⟨sb, cur, none⟩ (.bool true)) eb (e5.set q (Pl.pv e5 q + 1)) from Row.other e9 (by simp; omega) _)
                have S9 := hide (s9.set cur true)
                have HU := hide (Pl.uns_set (by have := HSZ.out; omega) hseen')
                clear c1 b10 x10 b9 x9 r9 e9 s9 hseen hseen' hmc
                go_wp2_with fail
                refine (turn_back _ _ (by omega)).mono ?_
                rintro e w9 ⟨rfl, rfl⟩
                go_wp2
                go_roundg (gk - 1)
                case measure => have h1 := HGK.out; have h2 := HU.out; omega
                case rel => exact ⟨i + 1, b8.set cur true, by have h1 := HGK.out; have h2 := HU.out; omega, by rw [HC.out]; rfl, by have := HSI.out.step HF.out; rw [← HC.out] at this; exact this, B9.out, X9.out, R9.out, E9.out, S9.out⟩
        · have hjm' : j = 4 * d.n := by have := HM.out; omega
          have HE' := hide (show Pl.Ex d ps e5 P d.n (4 * d.n) by have := HE.out; rw [hjm'] at this; exact this)
          have HR := hide (HE'.out.rule HF.out HLB.out HALL.out)
          have B6 := hide b6
          have E6 := hide e6
          clear b6 x6 r6 e6 s6 hjm' HE
          go_wp2
          go_loopg [75] P (fun g' i wx => ∃ k : Nat, k + g' = P ∧ i = .int .i64 k ∧ (∀ p, p < k → Pl.pv e5 p = 2) ∧ Below w.heap.size w wx ∧ IRow wx eb e5)
          case atStart => exact ⟨0, by omega, rfl, fun p hp => absurd hp (by omega), B6.out, E6.out⟩
          case round =>
            clear B6 E6
            obtain ⟨k, hkg, rfl, hall2, b7, e7⟩ := hrel
            have HGG := hide hkg
            have HA2 := hide hall2
            have hkP : k ≤ P := by omega
            clear hkg hall2
            by_cases hlt : k < P
            · have c1 := e7.cell (i := k) (by have := HEL.out; omega)
              have B7 := hide b7
              have E7 := hide e7
              clear b7 e7
              by_cases h2 : Pl.pv e5 k = 2
              · have H2 := hide h2
                rw [h2] at c1
                clear h2
                go_wp2
                go_roundg (gk - 1)
                case measure => have := HGG.out; omega
                case rel =>
                  refine ⟨k + 1, by have := HGG.out; omega, by go_num, fun p hp => ?_, B7.out, E7.out⟩
                  by_cases e : p = k
                  · rw [e]; exact H2.out
                  · exact HA2.out p (by omega)
              · have hb2 : (Pl.pv e5 k != 2) = true := by rw [bne_iff_ne]; exact h2
                have H2 := hide h2
                clear h2
                go_wp2
                go_ret
                exact ⟨ret_bool (Pl.vb_false (fun hr => H2.out (HR.out.2 hr k hlt))).symm, B7.out⟩
            · have hkP' : k = P := by omega
              have B7 := hide b7
              clear b7 e7
              go_wp2
              go_ret
              exact ⟨ret_bool (Pl.vb_true (HR.out.1 (fun p hp => HA2.out p (by omega)))).symm, B7.out⟩
theorem spherical_n (d : Pl.Dg) (hd : Pl.Wf d) (A B : Option Addr) (n q cp cq : Nat) (l : Value) (w : World) (e1 : n = d.n) (e2 : q = 4 * d.n) (hl : l = .int .i64 d.lp) (hg : DgAt w A B d) :
    Calls Try.prog 59 #[.agg #[.slice A n cp, .slice B q cq, l]] w fun e w' => e = .returned (.bool (Pl.vb (Pl.Rule d))) ∧ Below w.heap.size w w' := by
  subst e1; subst e2; exact spherical_any d hd A B cp cq l w hl hg
end Go.Proofs.Ytobbepmlmbbamaa
