/-
  The texts Wc, Reg, Val, Wj, Wk in one.
-/
import Derived.Test.YtghdiolnonejaaaB07
import Derived.Test.YtghdiolnonejaaaB01
import Derived.Test.YtghdiolnonejaaaB05
import Derived.Deep.QuietTactic
import Derived.BigQuiet
import Derived.Test.YtghdiolnonejaaaB02
set_option linter.unusedVariables false
set_option linter.unusedSimpArgs false

section
namespace Go.Proofs.Ytghdiolnonejaaa
open Go.RowKit
set_option maxRecDepth 100000 in
set_option maxHeartbeats 4000000 in
theorem spherical_any (d : Pl.Dg) (hd : Pl.Wf d) (A B : Option Addr) (cp cq : Nat) (l : Value) (w : World) (hl : l = .int .i64 d.lp) (hg : DgAt w A B d) :
    Calls Try.prog 47 #[.agg #[.slice A d.n cp, .slice B (4 * d.n) cq, l]] w fun e w' => e = .returned (.bool (Pl.vb (Pl.Rule d))) ∧ Below w.heap.size w w' := by
  subst hl
  have hn := hd.few
  have HF := hide hd
  clear hd
  obtain ⟨m, hm⟩ : ∃ m, m = 4 * d.n := ⟨_, rfl⟩
  rw [← hm]
  have HM := hide hm
  have hm6 : m ≤ 256 := by omega
  clear hm
  go_enter Try.func47, Try.ntmps47
  go_wp2_with fail
  have b0 : Below w.heap.size w (w.alloc (.cells #[.slice A d.n cp, .slice B m cq, .int .i64 d.lp] 24)) := (Below.refl _ _).alloc (Nat.le_refl _) _
  have x0 : Row (w.alloc (.cells #[.slice A d.n cp, .slice B m cq, .int .i64 d.lp] 24)) w.heap.size 24 (boxV A B d.n cp m cq (.int .i64 d.lp)) := Row.new w _ _
  refine (label_m d HF.out A B cp cq m _ _ HM.out (hg.keep b0)).mono ?_
  rintro e w1 ⟨ps, P, g, rfl, hlb, hall, hgb, hrow, hb1⟩
  have X1 := hide (x0.below hb1)
  have B1 := hide (b0.trans (hb1.mono (by simp)))
  have hPn := hlb.le
  have HLB := hide hlb
  have HALL := hide hall
  have HLen := hide hlb.len
  have R1 := hide hrow
  have hg0 : w.heap.size + 1 ≤ g := by simpa using hgb
  have hg1 : g < w1.heap.size := hrow.lt
  clear b0 x0 hb1 hlb hall hrow hgb
  have hmk := run_ints P (by omega) w1
  go_wp2
  clear hmk
  obtain ⟨W2, hW2⟩ : ∃ W2 : World, W2 = w1.alloc (.cells (Array.replicate P (Value.int .i64 0)) 3) := ⟨_, rfl⟩
  have B2 := hide (show Below w.heap.size w W2 by rw [hW2]; exact B1.out.alloc (by omega) _)
  have X2 := hide (show Row W2 w.heap.size 24 (boxV A B d.n cp m cq (.int .i64 d.lp)) by rw [hW2]; exact X1.out.alloc _)
  have R2 := hide (show IRow W2 g ps by rw [hW2]; exact Row.alloc R1.out _)
  have E2 := hide (show IRow W2 w1.heap.size (List.replicate P 0) by rw [hW2]; exact IRow.made w1 P)
  rw [← hW2]
  clear hW2 B1 X1 R1
  generalize w1.heap.size = eb at hg1 E2 ⊢
  go_loopg [22] d.n (fun g' i wx => ∃ (k : Nat) (es : List Int), k + g' = d.n ∧ i = .int .i64 k ∧ Pl.Ex d ps es P k 0 ∧ Below w.heap.size w wx ∧ Row wx w.heap.size 24 (boxV A B d.n cp m cq (.int .i64 d.lp)) ∧ IRow wx g ps ∧ IRow wx eb es)
  case atStart => exact ⟨0, _, by omega, rfl, Pl.Ex.start d ps P, B2.out, X2.out, R2.out, E2.out⟩
  case round =>
    clear B2 X2 R2 E2
    obtain ⟨k, es, hkg, rfl, hex, b3, x3, r3, e3⟩ := hrel
    have HG := hide hkg
    have HE := hide hex
    have hks : k ≤ d.n := by omega
    have hel := hex.1
    have HEL := hide hel
    clear hkg hex
    by_cases hlt : k < d.n
    · obtain ⟨q, hq⟩ : ∃ q : Nat, Pl.pv ps k = q := ⟨(Pl.pv ps k).toNat, by have := HALL.out k hlt; omega⟩
      have hqP : q < P := by have := (HLB.out.lo k hlt).2; omega
      have c1 := r3.cell (i := k) (by have := HLen.out; omega)
      rw [hq] at c1
      have c2 := e3.cell (i := q) (by omega)
      have f2 := Row.free e3 q
      have hlo : -1000 ≤ Pl.pv es q ∧ Pl.pv es q ≤ 1000 := by
        have h1 := HE.out.2 q hqP
        have h2 : Pl.nf d ps q 0 = 0 := rfl
        have h3 : Pl.nv ps q k ≤ k := Pl.cnt_top _ k
        omega
      have HQ := hide hq
      have B3 := hide b3
      have X3 := hide x3
      have R3 := hide r3
      have E3 := hide e3
      clear hq b3 x3 r3 e3 hel
      go_wp2
      go_roundg (gk - 1)
      case measure => have := HG.out; omega
      case rel =>
        refine ⟨k + 1, _, by have := HG.out; omega, by go_num, HE.out.less hqP HQ.out, B3.out.setCell (by simp; omega) _, X3.out.other (by simp; omega) _, Row.other R3.out (by simp; omega) _, E3.out.set q (Pl.pv es q - 1)⟩
    · have hkn : k = d.n := by omega
      have HE' := hide (show Pl.Ex d ps es P d.n 0 by have := HE.out; rw [hkn] at this; exact this)
      have hmk2 := run_bools m (by omega) wr
      have B3 := hide b3
      have X3 := hide x3
      have R3 := hide r3
      have E3 := hide e3
      have x3c : wr.cell? ⟨w.heap.size, 1, none⟩ = some (.slice B m cq) := x3.cell (i := 1) (by show 1 < 3; omega)
      have ewz : eb < wr.heap.size := e3.lt
      have x3d : (wr.alloc (.cells (Array.replicate m (Value.bool false)) 4)).cell? ⟨w.heap.size, 1, none⟩ = some (.slice B m cq) := (x3.alloc _).cell (i := 1) (by show 1 < 3; omega)
      clear b3 x3 r3 e3 hkn HE hel
      go_wp2
      clear hmk2 x3c x3d
      obtain ⟨W4, hW4⟩ : ∃ W4 : World, W4 = wr.alloc (.cells (Array.replicate m (Value.bool false)) 4) := ⟨_, rfl⟩
      have B4 := hide (show Below w.heap.size w W4 by rw [hW4]; exact B3.out.alloc (by omega) _)
      have X4 := hide (show Row W4 w.heap.size 24 (boxV A B d.n cp m cq (.int .i64 d.lp)) by rw [hW4]; exact X3.out.alloc _)
      have R4 := hide (show IRow W4 g ps by rw [hW4]; exact Row.alloc R3.out _)
      have E4 := hide (show IRow W4 eb es by rw [hW4]; exact Row.alloc E3.out _)
      have S4 := hide (show BRow W4 wr.heap.size (List.replicate (4 * d.n) false) by rw [hW4, ← HM.out]; exact BRow.made wr m)
      rw [← hW4]
      clear hW4 B3 X3 R3 E3
      generalize wr.heap.size = sb at ewz S4 ⊢
      go_loopg [40] m (fun g' i wx => ∃ (k : Nat) (es : List Int) (bs : List Bool), k + g' = m ∧ i = .int .i64 k ∧ Pl.Ex d ps es P d.n k ∧ Pl.SQ d k bs ∧ Below w.heap.size w wx ∧ Row wx w.heap.size 24 (boxV A B d.n cp m cq (.int .i64 d.lp)) ∧ IRow wx g ps ∧ IRow wx eb es ∧ BRow wx sb bs)
      case atStart => exact ⟨0, es, _, by omega, rfl, HE'.out, Pl.SQ.start d, B4.out, X4.out, R4.out, E4.out, S4.out⟩
      case round =>
        clear B4 X4 R4 E4 S4 HG HEL HE'
        obtain ⟨j, e5, bs, hjg, rfl, hex, hsq, b6, x6, r6, e6, s6⟩ := hrel
        have HG := hide hjg
        have HE := hide hex
        have HS := hide hsq
        have hjs : j ≤ m := by omega
        have HEL := hide hex.1
        have HSL := hide hsq.len
        clear hjg hex hsq
        by_cases hjm : j < m
        · have hj4 : j < 4 * d.n := by have := HM.out; omega
          have c1 := s6.cell (i := j) (by have := HSL.out; omega)
          by_cases hseen : Pl.gb bs j = true
          · have c1' : wr.cell? ⟨sb, j, none⟩ = some (.bool true) := by rw [c1]; exact congrArg (fun b => some (Value.bool b)) hseen
            have B6 := hide b6
            have X6 := hide x6
            have R6 := hide r6
            have E6 := hide e6
            have S6 := hide s6
            have HSE := hide (HS.out.seen HF.out hj4 hseen)
            clear c1 b6 x6 r6 e6 s6 hseen
            go_wp2
            go_roundg (gk - 1)
            case measure => have := HG.out; omega
            case rel => exact ⟨j + 1, e5, bs, by have := HG.out; omega, by go_num, HE.out.same HSE.out.2, HSE.out.1, B6.out, X6.out, R6.out, E6.out, S6.out⟩
          · have hseen' : Pl.gb bs j = false := by simpa using hseen
            have c1' : wr.cell? ⟨sb, j, none⟩ = some (.bool false) := by rw [c1]; exact congrArg (fun b => some (Value.bool b)) hseen'
            have HSE := hide (HS.out.enter HF.out hj4 hseen')
            have hj4' : j / 4 < d.n := by omega
            obtain ⟨q, hq⟩ : ∃ q : Nat, Pl.pv ps (j / 4) = q := ⟨(Pl.pv ps (j / 4)).toNat, by have := HALL.out (j / 4) hj4'; omega⟩
            have hqP : q < P := by have := (HLB.out.lo (j / 4) hj4').2; omega
            have c2 := r6.cell (i := j / 4) (by have := HLen.out; omega)
            rw [hq] at c2
            have c3 := e6.cell (i := q) (by have := HEL.out; omega)
            have f3 := Row.free e6 q
            have hlo : -1000 ≤ Pl.pv e5 q ∧ Pl.pv e5 q ≤ 1000 := by
              have h1 := HE.out.2 q hqP
              have h2 : Pl.nf d ps q j ≤ j := Pl.cnt_top _ j
              have h3 : Pl.nv ps q d.n ≤ d.n := Pl.cnt_top _ d.n
              omega
            have HQ := hide hq
            have B6 := hide b6
            have X6 := hide x6
            have R6 := hide r6
            have E6 := hide e6
            have S6 := hide s6
            obtain ⟨wo, rfl⟩ : ∃ wo : World, wo = wr := ⟨_, rfl⟩
            clear c1 b6 x6 r6 e6 s6 hseen hseen' hq
            go_wp2
            obtain ⟨W5, hW5⟩ : ∃ W5 : World, W5 = wo.setCell ⟨eb, q, none⟩ (.int .i64 (Pl.pv e5 q + 1)) := ⟨_, rfl⟩
            have B7 := hide (show Below w.heap.size w W5 by rw [hW5]; exact B6.out.setCell (by simp; omega) _)
            have X7 := hide (show Row W5 w.heap.size 24 (boxV A B d.n cp m cq (.int .i64 d.lp)) by rw [hW5]; exact X6.out.other (by simp; omega) _)
            have R7 := hide (show IRow W5 g ps by rw [hW5]; exact Row.other R6.out (by simp; omega) _)
            have E7 := hide (show IRow W5 eb (e5.set q (Pl.pv e5 q + 1)) by rw [hW5]; exact E6.out.set q _)
            have S7 := hide (show BRow W5 sb bs by rw [hW5]; exact Row.other S6.out (by simp; omega) _)
            rw [← hW5]
            clear hW5 B6 X6 R6 E6 S6 c1' c2 c3 f3
            go_loopg [10] (Pl.uns bs) (fun g' v wx => ∃ (i : Nat) (b8 : List Bool), g' = Pl.uns b8 ∧ v = .int .i64 (Pl.it (Pl.nx d) i j : Nat) ∧ Pl.SI d j i b8 ∧ Below w.heap.size w wx ∧ Row wx w.heap.size 24 (boxV A B d.n cp m cq (.int .i64 d.lp)) ∧ IRow wx g ps ∧ IRow wx eb (e5.set q (Pl.pv e5 q + 1)) ∧ BRow wx sb b8)
            case atStart => exact ⟨0, bs, rfl, rfl, HSE.out.1, B7.out, X7.out, R7.out, E7.out, S7.out⟩
            case round =>
              clear B7 X7 R7 E7 S7
              obtain ⟨i, b8, hgk, rfl, hsi, b9, x9, r9, e9, s9⟩ := hrel
              have HGK := hide hgk
              have HSI := hide hsi
              have HSZ := hide hsi.len
              have hcur4 := hsi.lt HF.out
              clear hgk hsi
              obtain ⟨cur, hcur⟩ : ∃ cur, cur = Pl.it (Pl.nx d) i j := ⟨_, rfl⟩
              rw [← hcur] at hcur4 ⊢
              have HC := hide hcur
              clear hcur
              have hcm : cur < m := by have := HM.out; omega
              have c1 := s9.cell (i := cur) (by have := HSZ.out; omega)
              have f1 := Row.free s9 cur
              by_cases hseen : Pl.gb b8 cur = true
              · have c1' : wr.cell? ⟨sb, cur, none⟩ = some (.bool true) := by rw [c1]; exact congrArg (fun b => some (Value.bool b)) hseen
                have HD := hide (HSI.out.done HF.out (by rw [← HC.out]; exact hseen))
                have B9 := hide b9
                have X9 := hide x9
                have R9 := hide r9
                have E9 := hide e9
                have S9 := hide s9
                clear c1 f1 b9 x9 r9 e9 s9 hseen
                go_wp2
                go_roundg (m - (j + 1))
                case measure => have := HG.out; omega
                case rel => exact ⟨j + 1, _, b8, by omega, by go_num, HE.out.more hqP HQ.out HSE.out.2, HD.out, B9.out, X9.out, R9.out, E9.out, S9.out⟩
              · have hseen' : Pl.gb b8 cur = false := by simpa using hseen
                have c1' : wr.cell? ⟨sb, cur, none⟩ = some (.bool false) := by rw [c1]; exact congrArg (fun b => some (Value.bool b)) hseen'
                obtain ⟨bb, bo, rfl, hmc⟩ := mate_at hg.m hcur4
                have hml := HF.out.lt _ hcur4
                have b10 : Below w.heap.size w (wr.setCell ⟨sb, cur, none⟩ (.bool true)) := b9.setCell (by simp; omega) _
                have c2 := cell_below hmc b10
                have x10 : Row (wr.setCell ⟨sb, cur, none⟩ (.bool true)) w.heap.size 24 (boxV A (some ⟨bb, bo, none⟩) d.n cp m cq (.int .i64 d.lp)) := x9.other (by simp; omega) _
                have c3 : (wr.setCell ⟨sb, cur, none⟩ (.bool true)).cell? ⟨w.heap.size, 1, none⟩ = some (.slice (some ⟨bb, bo, none⟩) m cq) := x10.cell (i := 1) (by show 1 < 3; omega)
                have B9 := hide b10
                have X9 := hide x10
                have R9 := hide (show IRow (wr.setCell ⟨sb, cur, none⟩ (.bool true)) g ps from Row.other r9 (by simp; omega) _)
                have E9 := hide (show IRow (wr.setCell ⟨sb, cur, none⟩ (.bool true)) eb (e5.set q (Pl.pv e5 q + 1)) from Row.other e9 (by simp; omega) _)
                have S9 := hide (s9.set cur true)
                have HU := hide (Pl.uns_set (by have := HSZ.out; omega) hseen')
                clear c1 b10 x10 b9 x9 r9 e9 s9 hseen hseen' hmc
                go_wp2_with fail
                refine (turn_back _ _ (by omega)).mono ?_
                rintro e w9 ⟨rfl, rfl⟩
                go_wp2
                go_roundg (gk - 1)
                case measure => have h1 := HGK.out; have h2 := HU.out; omega
                case rel => exact ⟨i + 1, b8.set cur true, by have h1 := HGK.out; have h2 := HU.out; omega, by rw [HC.out]; rfl, by have := HSI.out.step HF.out; rw [← HC.out] at this; exact this, B9.out, X9.out, R9.out, E9.out, S9.out⟩
        · have hjm' : j = 4 * d.n := by have := HM.out; omega
          have HE' := hide (show Pl.Ex d ps e5 P d.n (4 * d.n) by have := HE.out; rw [hjm'] at this; exact this)
          have HR := hide (HE'.out.rule HF.out HLB.out HALL.out)
          have B6 := hide b6
          have E6 := hide e6
          clear b6 x6 r6 e6 s6 hjm' HE
          go_wp2
          go_loopg [75] P (fun g' i wx => ∃ k : Nat, k + g' = P ∧ i = .int .i64 k ∧ (∀ p, p < k → Pl.pv e5 p = 2) ∧ Below w.heap.size w wx ∧ IRow wx eb e5)
          case atStart => exact ⟨0, by omega, rfl, fun p hp => absurd hp (by omega), B6.out, E6.out⟩
          case round =>
            clear B6 E6
            obtain ⟨k, hkg, rfl, hall2, b7, e7⟩ := hrel
            have HGG := hide hkg
            have HA2 := hide hall2
            have hkP : k ≤ P := by omega
            clear hkg hall2
            by_cases hlt : k < P
            · have c1 := e7.cell (i := k) (by have := HEL.out; omega)
              have B7 := hide b7
              have E7 := hide e7
              clear b7 e7
              by_cases h2 : Pl.pv e5 k = 2
              · have H2 := hide h2
                rw [h2] at c1
                clear h2
                go_wp2
                go_roundg (gk - 1)
                case measure => have := HGG.out; omega
                case rel =>
                  refine ⟨k + 1, by have := HGG.out; omega, by go_num, fun p hp => ?_, B7.out, E7.out⟩
                  by_cases e : p = k
                  · rw [e]; exact H2.out
                  · exact HA2.out p (by omega)
              · have hb2 : (Pl.pv e5 k != 2) = true := by rw [bne_iff_ne]; exact h2
                have H2 := hide h2
                clear h2
                go_wp2
                go_ret
                exact ⟨ret_bool (Pl.vb_false (fun hr => H2.out (HR.out.2 hr k hlt))).symm, B7.out⟩
            · have hkP' : k = P := by omega
              have B7 := hide b7
              clear b7 e7
              go_wp2
              go_ret
              exact ⟨ret_bool (Pl.vb_true (HR.out.1 (fun p hp => HA2.out p (by omega)))).symm, B7.out⟩
theorem spherical_n (d : Pl.Dg) (hd : Pl.Wf d) (A B : Option Addr) (n q cp cq : Nat) (l : Value) (w : World) (e1 : n = d.n) (e2 : q = 4 * d.n) (hl : l = .int .i64 d.lp) (hg : DgAt w A B d) :
    Calls Try.prog 47 #[.agg #[.slice A n cp, .slice B q cq, l]] w fun e w' => e = .returned (.bool (Pl.vb (Pl.Rule d))) ∧ Below w.heap.size w w' := by
  subst e1; subst e2; exact spherical_any d hd A B cp cq l w hl hg
end Go.Proofs.Ytghdiolnonejaaa
end

section
namespace Go.Proofs.Ytghdiolnonejaaa
open Go.RowKit
/-- A world of the class C. -/
structure Cls (C : World → Prop) where
  w : World
  ok : C w
theorem wp_region_cls {P : Program} (C : World → Prop) {id : Nat} {Q : Exit → Act → World → Prop} {a : Act} {w : World} {l : List Oper} (hm : P.follows .mixedOrders = true) (hB : Region.lexB .any l.toArray = true)
    (hC : C { w with drawn := w.drawn + 1 })
    (h : Nonempty (Cls C) → wpQuiet P l.toArray (fun w' => ∃ p : Cls C, w' = p.w) (fun a' => ∀ w', (∃ p : Cls C, w' = p.w) → Q .normal a' w') l a) : (Code.region id l.toArray true).wp P Q a w :=
  wp_region_quiet (C := fun w' => ∃ p : Cls C, w' = p.w) hm hB ⟨⟨_, hC⟩, rfl⟩ (by simpa using h ⟨⟨_, hC⟩⟩)
/-- A callee's contract that keeps the class. -/
theorem calls_cls {P : Program} {C : World → Prop} {f : FuncId} {args : Array Value} {w : World} {v : Value} {R : Ending → World → Prop} (h : Calls P f args w R) (hR : ∀ e w', R e w' → e = .returned v ∧ C w') :
    Calls P f args w fun e w'' => e = .returned v ∧ ∃ p : Cls C, w'' = p.w :=
  h.mono fun e w' hr => let ⟨h1, h2⟩ := hR e w' hr; ⟨h1, ⟨w', h2⟩, rfl⟩
end Go.Proofs.Ytghdiolnonejaaa
end

section
namespace Go.Proofs.Ytghdiolnonejaaa
open Go.RowKit
theorem ints_pv {w : World} {A : Option Addr} {n k : Nat} {zs : List Int} (h : IntsAt w A n zs) (hk : k < n) :
    ∃ b o, A = some ⟨b, o, none⟩ ∧ w.cell? ⟨b, o + k, none⟩ = some (.int .i64 (Pl.pv zs k)) := h.at_ hk
set_option maxRecDepth 100000 in
set_option maxHeartbeats 1500000 in
theorem valid_any (sg mt : List Int) (lp : Int) (A B : Option Addr) (n q cp cq : Nat) (w : World) (hs : IntsAt w A n sg) (hm : IntsAt w B q mt) (hn : n ≤ maxLen) (hq : q ≤ maxLen) (hlp : -9223372036854775808 ≤ lp ∧ lp ≤ 9223372036854775807) :
    Calls Try.prog 21 #[.agg #[.slice A n cp, .slice B q cq, .int .i64 lp]] w fun e w' => e = .returned (.bool (Pl.vb (Pl.VL sg mt lp))) ∧ Below w.heap.size w w' := by
  unfold maxLen at hn hq
  have HLS := hide hs.len
  have HLM := hide hm.len
  have b0 : Below w.heap.size w (w.alloc (.cells #[.slice A n cp, .slice B q cq, .int .i64 lp] 24)) := (Below.refl _ _).alloc (Nat.le_refl _) _
  by_cases h1 : 64 < n
  · have HV := hide (fun h : Pl.VL sg mt lp => show False by have := h.few; have := HLS.out; omega)
    go_enter Try.func21, Try.ntmps21
    go_wp2
    go_ret
    exact ⟨ret_bool (Pl.vb_false HV.out).symm, b0⟩
  · have h1' : decide (64 < (n : Int)) = false := by simp; omega
    by_cases h2 : q = 4 * n
    · by_cases h3 : 0 ≤ lp ∧ lp ≤ 64
      · have h2' : (((q : Nat) : Int) != 4 * (n : Int)) = false := by simp; omega
        have h3a : decide (lp < 0) = false := by simp; omega
        have h3b : decide (64 < lp) = false := by simp; omega
        have HQ4 := hide h2
        have hq6 : q ≤ 256 := by omega
        clear h2
        have x0 : Row (w.alloc (.cells #[.slice A n cp, .slice B q cq, .int .i64 lp] 24)) w.heap.size 24 (boxV A B n cp q cq (.int .i64 lp)) := Row.new w _ _
        go_enter Try.func21, Try.ntmps21
        go_wp2
        have B0 := hide b0
        have X0 := hide x0
        clear b0 x0 h1' h2' h3a h3b
        go_loopg [34] n (fun g i wx => ∃ k : Nat, k + g = n ∧ i = .int .i64 k ∧ (∀ c, c < k → Pl.pv sg c = 1 ∨ Pl.pv sg c = -1) ∧ Below w.heap.size w wx ∧ Row wx w.heap.size 24 (boxV A B n cp q cq (.int .i64 lp)))
        case atStart => exact ⟨0, by omega, rfl, fun c hc => absurd hc (by omega), B0.out, X0.out⟩
        case round =>
          clear B0 X0
          obtain ⟨k, hkg, rfl, hsg, b1, x1⟩ := hrel
          have HG := hide hkg
          have HSG := hide hsg
          have hkn : k ≤ n := by omega
          clear hkg hsg
          by_cases hlt : k < n
          · obtain ⟨ab, ao, rfl, hc⟩ := ints_pv hs hlt
            have hc1 := cell_below hc b1
            have B1 := hide b1
            have X1 := hide x1
            clear b1 x1 hc
            by_cases hz : Pl.pv sg k = 1
            · have HZ := hide hz
              rw [hz] at hc1
              clear hz
              go_wp2
              go_roundg (gk - 1)
              case measure => have := HG.out; omega
              case rel =>
                refine ⟨k + 1, by have := HG.out; omega, by go_num, fun c hc => ?_, B1.out, X1.out⟩
                by_cases e : c = k
                · rw [e]; exact .inl HZ.out
                · exact HSG.out c (by omega)
            · by_cases hz2 : Pl.pv sg k = -1
              · have HZ := hide hz2
                rw [hz2] at hc1
                clear hz hz2
                go_wp2
                go_roundg (gk - 1)
                case measure => have := HG.out; omega
                case rel =>
                  refine ⟨k + 1, by have := HG.out; omega, by go_num, fun c hc => ?_, B1.out, X1.out⟩
                  by_cases e : c = k
                  · rw [e]; exact .inr HZ.out
                  · exact HSG.out c (by omega)
              · have HV := hide (fun h : Pl.VL sg mt lp => show False by
                  rcases h.sign (c := k) (by have := HLS.out; omega) with e | e
                  · exact hz e
                  · exact hz2 e)
                have t1 : (Pl.pv sg k != 1) = true := by rw [bne_iff_ne]; exact hz
                have t2 : (Pl.pv sg k != -1) = true := by rw [bne_iff_ne]; exact hz2
                clear hz hz2
                go_wp2
                go_ret
                exact ⟨ret_bool (Pl.vb_false HV.out).symm, B1.out⟩
          · have HSG' := hide (fun (c : Nat) (hc : c < sg.length) => HSG.out c (by have := HLS.out; omega))
            have B1 := hide b1
            have X1 := hide x1
            have x1c : wr.cell? ⟨w.heap.size, 1, none⟩ = some (.slice B q cq) := x1.cell (i := 1) (by show 1 < 3; omega)
            clear b1 x1 HSG HG
            go_wp2
            clear x1c
            go_loopg [48] q (fun g i wx => ∃ k : Nat, k + g = q ∧ i = .int .i64 k ∧ (∀ h, h < k → 0 ≤ Pl.pv mt h ∧ Pl.pv mt h < mt.length ∧ Pl.pv mt h ≠ h ∧ Pl.pv mt (Pl.pv mt h).toNat = h ∧ Pl.out (Pl.mk sg mt lp) h ≠ Pl.out (Pl.mk sg mt lp) (Pl.pv mt h).toNat) ∧ Below w.heap.size w wx ∧ Row wx w.heap.size 24 (boxV A B n cp q cq (.int .i64 lp)))
            case atStart => exact ⟨0, by omega, rfl, fun c hc => absurd hc (by omega), B1.out, X1.out⟩
            case round =>
              clear B1 X1
              obtain ⟨j, hjg, rfl, hmo, b2, x2⟩ := hrel
              have HG := hide hjg
              have HMO := hide hmo
              have hjq : j ≤ q := by omega
              clear hjg hmo
              by_cases hlt2 : j < q
              · obtain ⟨bb, bo, rfl, hc⟩ := ints_pv hm hlt2
                have hc1 := cell_below hc b2
                have x2c : wr.cell? ⟨w.heap.size, 1, none⟩ = some (.slice (some ⟨bb, bo, none⟩) q cq) := x2.cell (i := 1) (by show 1 < 3; omega)
                have hjl : j < mt.length := by have := HLM.out; omega
                have B2 := hide b2
                have X2 := hide x2
                clear b2 x2 hc
                by_cases hz0 : Pl.pv mt j < 0
                · have HV := hide (fun h : Pl.VL sg mt lp => show False by have := (h.mate hjl).1; omega)
                  have t1 : decide (Pl.pv mt j < 0) = true := by simpa using hz0
                  clear hz0
                  go_wp2
                  go_ret
                  exact ⟨ret_bool (Pl.vb_false HV.out).symm, B2.out⟩
                · have t1 : decide (Pl.pv mt j < 0) = false := by simpa using hz0
                  by_cases hz1 : Pl.pv mt j < q
                  · obtain ⟨t, ht⟩ : ∃ t : Nat, Pl.pv mt j = t := ⟨(Pl.pv mt j).toNat, by omega⟩
                    have htq : t < q := by omega
                    have t2 : decide (4 * (n : Int) ≤ (t : Int)) = false := by have := HQ4.out; simp; omega
                    rw [ht] at hc1 t1
                    have HT := hide ht
                    have hj4 : j < 4 * n := by have := HQ4.out; omega
                    have ht4 : t < 4 * n := by have := HQ4.out; omega
                    clear hz0 hz1 ht
                    by_cases htj : t = j
                    · have HV := hide (fun h : Pl.VL sg mt lp => show False by have := (h.mate hjl).2.2.1; rw [HT.out] at this; omega)
                      have t3 : (((t : Nat) : Int) == (j : Int)) = true := by simp; omega
                      clear htj
                      go_wp2
                      go_ret
                      exact ⟨ret_bool (Pl.vb_false HV.out).symm, B2.out⟩
                    · have t3 : (((t : Nat) : Int) == (j : Int)) = false := by simp; omega
                      obtain ⟨bb', bo', ebb, hcb⟩ := ints_pv hm htq
                      injection ebb with ebb
                      injection ebb with ebb1 ebb2
                      subst ebb1; subst ebb2
                      have hc2 := cell_below hcb B2.out
                      clear hcb
                      by_cases hinv : Pl.pv mt t = j
                      · have HI := hide hinv
                        rw [hinv] at hc2
                        clear hinv
                        have HSS := hide (fun (p : Cls (fun w' => Row w' w.heap.size 24 (boxV A (some ⟨bb, bo, none⟩) n cp q cq (.int .i64 lp)) ∧ Below w.heap.size w w')) (h : Nat) (hh : h < 4 * n) =>
                          calls_cls (C := fun w' => Row w' w.heap.size 24 (boxV A (some ⟨bb, bo, none⟩) n cp q cq (.int .i64 lp)) ∧ Below w.heap.size w w')
                            (out_n (Pl.mk sg mt lp) A (some ⟨bb, bo, none⟩) n cp q cq (.int .i64 lp) h p.w HLS.out.symm hh (by omega) (hs.keep p.ok.2)) (fun e w' h => ⟨h.1, p.ok.1.below h.2, p.ok.2.trans (h.2.mono p.ok.2.size)⟩))
                        have c30 : ∀ p : Cls (fun w' => Row w' w.heap.size 24 (boxV A (some ⟨bb, bo, none⟩) n cp q cq (.int .i64 lp)) ∧ Below w.heap.size w w'), p.w.cell? ⟨w.heap.size, 0, none⟩ = some (.slice A n cp) := fun p => p.ok.1.cell (i := 0) (by show 0 < 3; omega)
                        have c31 : ∀ p : Cls (fun w' => Row w' w.heap.size 24 (boxV A (some ⟨bb, bo, none⟩) n cp q cq (.int .i64 lp)) ∧ Below w.heap.size w w'), p.w.cell? ⟨w.heap.size, 1, none⟩ = some (.slice (some ⟨bb, bo, none⟩) q cq) := fun p => p.ok.1.cell (i := 1) (by show 1 < 3; omega)
                        have c32 : ∀ p : Cls (fun w' => Row w' w.heap.size 24 (boxV A (some ⟨bb, bo, none⟩) n cp q cq (.int .i64 lp)) ∧ Below w.heap.size w w'), p.w.cell? ⟨w.heap.size, 2, none⟩ = some (.int .i64 lp) := fun p => p.ok.1.cell (i := 2) (by show 2 < 3; omega)
                        go_wp2
                        refine wp_region_cls (fun w' => Row w' w.heap.size 24 (boxV A (some ⟨bb, bo, none⟩) n cp q cq (.int .i64 lp)) ∧ Below w.heap.size w w') (by kernel_rfl) (by kernel_rfl) ⟨X2.out.drew, B2.out.drew⟩ (fun hne => ?_)
                        repeat (quiet_step ((go_at_call 46; exact HSS.out _ _ (by omega))))
                        refine wpQuiet_nil ?_
                        rintro _ ⟨p, rfl⟩
                        have hp1 := hide p.ok.1
                        have hp2 := hide p.ok.2
                        clear HSS c30 c31 c32
                        go_wp2
                        · have t5 : (Pl.out (Pl.mk sg mt lp) j == Pl.out (Pl.mk sg mt lp) t) = true := by assumption
                          go_ret
                          refine ⟨ret_bool (Pl.vb_false fun h => ?_).symm, hp2.out⟩
                          have h5 := (h.mate hjl).2.2.2.2
                          rw [HT.out, Int.toNat_natCast] at h5
                          exact h5 (beq_iff_eq.1 t5)
                        · have t5 : (Pl.out (Pl.mk sg mt lp) j == Pl.out (Pl.mk sg mt lp) t) = false := by assumption
                          go_roundg (gk - 1)
                          case measure => have := HG.out; omega
                          case rel =>
                            refine ⟨j + 1, by have := HG.out; omega, by go_num, fun h hh => ?_, hp2.out, hp1.out⟩
                            by_cases e : h = j
                            · subst e
                              rw [HT.out, Int.toNat_natCast]
                              exact ⟨by omega, by have := HLM.out; omega, by omega, HI.out, beq_eq_false_iff_ne.1 t5⟩
                            · exact HMO.out h (by omega)
                      · have HV := hide (fun h : Pl.VL sg mt lp => show False by
                          have := (h.mate hjl).2.2.2.1
                          rw [HT.out, Int.toNat_natCast] at this
                          exact hinv this)
                        have t4 : (Pl.pv mt t != (j : Int)) = true := by rw [bne_iff_ne]; exact hinv
                        clear hinv
                        go_wp2
                        go_ret
                        exact ⟨ret_bool (Pl.vb_false HV.out).symm, B2.out⟩
                  · have HV := hide (fun h : Pl.VL sg mt lp => show False by have := (h.mate hjl).2.1; have := HLM.out; omega)
                    have t2 : decide (4 * (n : Int) ≤ Pl.pv mt j) = true := by have := HQ4.out; simp; omega
                    clear hz0 hz1
                    go_wp2
                    go_ret
                    exact ⟨ret_bool (Pl.vb_false HV.out).symm, B2.out⟩
              · have hjq' : j = q := by omega
                have hw := Pl.wf_of (sg := sg) (mt := mt) (lp := lp) (by have := HLS.out; omega) (by have := HLS.out; have := HLM.out; have := HQ4.out; omega) h3 HSG'.out (fun k hk => HMO.out k (by have := HLM.out; omega))
                have hpos : ∀ z, z ∈ mt → 0 ≤ z := fun z hz => by
                  obtain ⟨k, hk, rfl⟩ := Pl.mem_pv hz
                  exact (HMO.out k (by have := HLM.out; omega)).1
                have HW := hide hw
                have HR := hide (Pl.VL.of hw hpos h3.1)
                have HN := hide (Pl.nats_mk (sg := sg) (lp := lp) hpos)
                have B2 := hide b2
                have x20 : wr.cell? ⟨w.heap.size, 0, none⟩ = some (.slice A n cp) := x2.cell (i := 0) (by show 0 < 3; omega)
                have x21 : wr.cell? ⟨w.heap.size, 1, none⟩ = some (.slice B q cq) := x2.cell (i := 1) (by show 1 < 3; omega)
                have x22 : wr.cell? ⟨w.heap.size, 2, none⟩ = some (.int .i64 lp) := x2.cell (i := 2) (by show 2 < 3; omega)
                clear b2 x2 hw hpos hjq'
                go_wp2_with fail
                refine (spherical_n (Pl.mk sg mt lp) HW.out A B n q cp cq (.int .i64 lp) _ HLS.out.symm (by have := HQ4.out; have := HLS.out; rw [Pl.mk_n]; omega) ?_ ⟨?_, ?_⟩).mono ?_
                · show Value.int .i64 lp = .int .i64 ((lp.toNat : Nat) : Int)
                  rw [Int.toNat_of_nonneg h3.1]
                · rw [Pl.mk_n, HLS.out]; exact hs.keep B2.out
                · unfold nats
                  rw [HN.out, Pl.mk_n, HLS.out, ← HQ4.out]; exact hm.keep B2.out
                rintro e w3 ⟨rfl, hb3⟩
                go_wp2
                go_ret
                exact ⟨ret_bool (congrArg Pl.vb (propext HR.out.symm)), B2.out.trans (hb3.mono B2.out.size)⟩
      · have HV := hide (fun h : Pl.VL sg mt lp => show False by have := h.loops; omega)
        have h2' : (((q : Nat) : Int) != 4 * (n : Int)) = false := by simp; omega
        have HQ2 := hide h2
        clear h2
        go_enter Try.func21, Try.ntmps21
        go_wp2
        all_goals
          go_ret
          exact ⟨ret_bool (Pl.vb_false HV.out).symm, b0⟩
    · have HV := hide (fun h : Pl.VL sg mt lp => show False by have := h.len; have := HLS.out; have := HLM.out; omega)
      have h2' : (((q : Nat) : Int) != 4 * (n : Int)) = true := by simp; omega
      go_enter Try.func21, Try.ntmps21
      go_wp2
      go_ret
      exact ⟨ret_bool (Pl.vb_false HV.out).symm, b0⟩
end Go.Proofs.Ytghdiolnonejaaa
end

section
namespace Go.Proofs.Ytghdiolnonejaaa
open Go.RowKit
theorem out2_i (d : Pl.Dg) (A B : Option Addr) (n cp q cq : Nat) (l : Value) (h : Int) (w : World) (e : n = d.n) (hh : 0 ≤ h ∧ h < 4 * (n : Int)) (hn : n ≤ 1000) (hs : IntsAt w A n d.sg) :
    Calls Try.prog 129 #[.agg #[.slice A n cp, .slice B q cq, l], .int .i64 h] w fun e w' => e = .returned (.bool (Pl.out d h.toNat)) ∧ Below w.heap.size w w' := by
  obtain ⟨k, rfl⟩ := Int.eq_ofNat_of_zero_le hh.1
  exact out2_n d A B n cp q cq l k w e (by omega) hn hs
theorem opp_i (h : Int) (w : World) (hh : 0 ≤ h ∧ h ≤ 1000000) :
    Calls Try.prog 100 #[.int .i64 h] w fun e w' => e = .returned (.int .i64 (Pl.tn h.toNat 2 : Nat)) ∧ w' = w := by
  obtain ⟨k, rfl⟩ := Int.eq_ofNat_of_zero_le hh.1
  refine (opposite_any k w (by omega)).mono ?_
  rintro e w' ⟨rfl, rfl⟩
  exact ⟨rfl, rfl⟩
theorem below_drewN {B : Nat} {a w : World} (h : Below B a w) (n : Nat) : Below B a (w.drewN n) := ⟨h.os, h.tape, h.output, h.size, h.block⟩
/-- The outgoing half-edge at which a kink would begin. -/
def kk (d : Pl.Dg) (c : Nat) : Nat := if d.m (4 * c + 2) / 4 = c then 4 * c + 2 else if d.s c = 1 then 4 * c + 1 else 4 * c + 3
def isK (d : Pl.Dg) (c : Nat) : Prop := d.m (kk d c) / 4 = c
def kinkE (d : Pl.Dg) (c : Nat) (b : Bool) : Ending := if b then .returned (.tuple #[.int .i64 (Pl.tn (kk d c) 2 : Nat), .int .i64 (Pl.tn (d.m (kk d c)) 2 : Nat), .bool true]) else .returned (.tuple #[.int .i64 0, .int .i64 0, .bool false])
def KinkPost (d : Pl.Dg) (c : Nat) (w : World) (e : Ending) (w' : World) : Prop := e = kinkE d c (Pl.vb (isK d c)) ∧ Below w.heap.size w w'
theorem kink_at {d : Pl.Dg} {c o : Nat} {w : World} {e : Ending} {w' : World} (h : kk d c = o) (hm : d.m o / 4 = c) (he : e = .returned (.tuple #[.int .i64 (Pl.tn o 2 : Nat), .int .i64 (Pl.tn (d.m o) 2 : Nat), .bool true])) (hb : Below w.heap.size w w') : KinkPost d c w e w' := by
  refine ⟨?_, hb⟩
  rw [Pl.vb_true (show isK d c by unfold isK; rw [h]; exact hm)]
  unfold kinkE
  rw [if_pos rfl, h, he]
theorem kink_no {d : Pl.Dg} {c : Nat} {w : World} {e : Ending} {w' : World} (h : ¬ d.m (kk d c) / 4 = c) (he : e = .returned (.tuple #[.int .i64 0, .int .i64 0, .bool false])) (hb : Below w.heap.size w w') : KinkPost d c w e w' := by
  refine ⟨?_, hb⟩
  rw [Pl.vb_false (show ¬ isK d c from h)]
  exact he
set_option maxRecDepth 100000 in
set_option maxHeartbeats 2000000 in
theorem kink_any (d : Pl.Dg) (hd : Pl.Wf d) (A B : Option Addr) (cp cq m c : Nat) (w : World) (hm : m = 4 * d.n) (hg : DgAt w A B d) (hc : c < d.n) :
    Calls Try.prog 81 #[.agg #[.slice A d.n cp, .slice B m cq, .int .i64 d.lp], .int .i64 (c : Int)] w (KinkPost d c w) := by
  have hn := hd.few
  have HM := hide hm
  clear hm
  have hmm : m ≤ 256 := by have := HM.out; omega
  have HG := hide hg
  clear hg
  have x0 : Row (w.alloc (.cells #[.slice A d.n cp, .slice B m cq, .int .i64 d.lp] 24)) w.heap.size 24 [.slice A d.n cp, .slice B m cq, .int .i64 d.lp] := Row.new w _ _
  have X0 := hide x0
  have B0 := hide (show Below w.heap.size w (w.alloc (.cells #[.slice A d.n cp, .slice B m cq, .int .i64 d.lp] 24)) from (Below.refl _ _).alloc (Nat.le_refl _) _)
  clear x0
  go_enter Try.func81, Try.ntmps81
  go_wp2
  go_loopg [11] 3 (fun g i wx => ∃ k : Nat, k + g = 3 ∧ i = .int .i64 k ∧ (0 < k → ¬ d.m (4 * c + 2) / 4 = c) ∧ (1 < k → d.s c = 1 → ¬ d.m (4 * c + 1) / 4 = c) ∧ (2 < k → d.s c = -1 → ¬ d.m (4 * c + 3) / 4 = c) ∧ Below w.heap.size w wx ∧ Row wx w.heap.size 24 [.slice A d.n cp, .slice B m cq, .int .i64 d.lp])
  case atStart => exact ⟨0, rfl, rfl, fun h => absurd h (by omega), fun h => absurd h (by omega), fun h => absurd h (by omega), B0.out, X0.out⟩
  case round =>
    clear B0 X0
    obtain ⟨k, hkg, rfl, q0, q1, q2, b1, x1⟩ := hrel
    have HG0 := hide hkg
    have Q0 := hide q0
    have Q1 := hide q1
    have Q2 := hide q2
    have B1 := hide b1
    have X1 := hide x1
    have hk4 : k = 0 ∨ k = 1 ∨ k = 2 ∨ k = 3 := by omega
    obtain ⟨e0, e1, e2, e3⟩ := box3 x1
    have i0 : ∀ W, (Instr.index 134 (.agg #[.int .i64 2, .int .i64 1, .int .i64 3]) (.int .i64 0)).run Try.prog W = .ok (.int .i64 2) W := fun _ => by kernel_rfl
    have i1 : ∀ W, (Instr.index 134 (.agg #[.int .i64 2, .int .i64 1, .int .i64 3]) (.int .i64 1)).run Try.prog W = .ok (.int .i64 1) W := fun _ => by kernel_rfl
    have i2 : ∀ W, (Instr.index 134 (.agg #[.int .i64 2, .int .i64 1, .int .i64 3]) (.int .i64 2)).run Try.prog W = .ok (.int .i64 3) W := fun _ => by kernel_rfl
    clear hkg q0 q1 q2 b1 x1
    rcases hk4 with rfl | rfl | rfl | rfl
    · go_wp2_with fail
      refine (out2_i d A B d.n cp m cq (.int .i64 d.lp) _ _ rfl (by omega) (by omega) (HG.out.s.keep B1.out)).mono ?_
      rintro e w2 ⟨rfl, hb2⟩
      have B2 := hide (B1.out.trans (hb2.mono B1.out.size))
      have X2 := hide (X1.out.below hb2)
      have HG2 := hide (HG.out.keep B2.out)
      have et : (4 * (c : Int) + 2).toNat = 4 * c + 2 := by omega
      rw [et]
      clear et hb2
      obtain ⟨b, o, rfl, cm⟩ := mate_at HG2.out.m (k := 4 * c + 2) (by omega)
      obtain ⟨f0, f1, f2, f3⟩ := box3 X2.out
      have g1 : (0 : Int) ≤ 4 * (c : Int) + 2 := by omega
      have g2 : 4 * (c : Int) + 2 < (m : Int) := by have := HM.out; omega
      have lt := hd.lt (4 * c + 2) (by omega)
      obtain ⟨x, hx⟩ : ∃ x, x = d.m (4 * c + 2) := ⟨_, rfl⟩
      rw [← hx] at cm lt
      have HX := hide hx
      clear hx
      have hO : Pl.out d (4 * c + 2) = true := out_two (by omega)
      rw [hO]
      clear hO
      by_cases hk : x / 4 = c
      · have t1 : ((x : Int) / 4 == (c : Int)) = true := by rw [beq_iff_eq]; omega
        have HK := hide hk
        clear hk
        go_wp2_with fail
        go_quiet ((go_at_call 100; exact Calls.quiet_of_same (opp_i _ _ (by omega))))
        go_wp2
        go_ret3
        have hkk : kk d c = 4 * c + 2 := by unfold kk; rw [if_pos (by rw [← HX.out]; exact HK.out)]
        refine kink_at hkk (by rw [← HX.out]; exact HK.out) ?_ (below_drewN B2.out _)
        rw [← HX.out, show (4 * (c : Int) + 2).toNat = 4 * c + 2 by omega, Int.toNat_natCast]
        rfl
      · have t1 : ((x : Int) / 4 == (c : Int)) = false := by rw [beq_eq_false_iff_ne]; omega
        have HK := hide hk
        clear hk
        go_wp2
        go_roundg 2
        case measure => have := HG0.out; omega
        case rel => exact ⟨1, rfl, by go_num, fun _ => by rw [← HX.out]; exact HK.out, fun h => absurd h (by omega), fun h => absurd h (by omega), B2.out, X2.out⟩
    · go_wp2_with fail
      refine (out2_i d A B d.n cp m cq (.int .i64 d.lp) _ _ rfl (by omega) (by omega) (HG.out.s.keep B1.out)).mono ?_
      rintro e w2 ⟨rfl, hb2⟩
      have B2 := hide (B1.out.trans (hb2.mono B1.out.size))
      have X2 := hide (X1.out.below hb2)
      have HG2 := hide (HG.out.keep B2.out)
      have et : (4 * (c : Int) + 1).toNat = 4 * c + 1 := by omega
      rw [et]
      clear et hb2
      obtain ⟨b, o, rfl, cm⟩ := mate_at HG2.out.m (k := 4 * c + 1) (by omega)
      obtain ⟨f0, f1, f2, f3⟩ := box3 X2.out
      have g1 : (0 : Int) ≤ 4 * (c : Int) + 1 := by omega
      have g2 : 4 * (c : Int) + 1 < (m : Int) := by have := HM.out; omega
      have lt := hd.lt (4 * c + 1) (by omega)
      obtain ⟨x, hx⟩ : ∃ x, x = d.m (4 * c + 1) := ⟨_, rfl⟩
      rw [← hx] at cm lt
      have HX := hide hx
      clear hx
      by_cases hs1 : d.s c = 1
      · have S1 := hide hs1
        clear hs1
        have hO : Pl.out d (4 * c + 1) = true := by rw [out_one (by omega), show (4 * c + 1) / 4 = c by omega, S1.out]; rfl
        rw [hO]
        clear hO
        by_cases hk : x / 4 = c
        · have t1 : ((x : Int) / 4 == (c : Int)) = true := by rw [beq_iff_eq]; omega
          have HK := hide hk
          clear hk
          go_wp2_with fail
          go_quiet ((go_at_call 100; exact Calls.quiet_of_same (opp_i _ _ (by omega))))
          go_wp2
          go_ret3
          have hkk : kk d c = 4 * c + 1 := by unfold kk; rw [if_neg (Q0.out (by omega)), if_pos S1.out]
          refine kink_at hkk (by rw [← HX.out]; exact HK.out) ?_ (below_drewN B2.out _)
          rw [← HX.out, show (4 * (c : Int) + 1).toNat = 4 * c + 1 by omega, Int.toNat_natCast]
          rfl
        · have t1 : ((x : Int) / 4 == (c : Int)) = false := by rw [beq_eq_false_iff_ne]; omega
          have HK := hide hk
          clear hk
          go_wp2
          go_roundg 1
          case measure => have := HG0.out; omega
          case rel => exact ⟨2, rfl, by go_num, fun _ => Q0.out (by omega), fun _ _ => by rw [← HX.out]; exact HK.out, fun h => absurd h (by omega), B2.out, X2.out⟩
      · have S1 := hide hs1
        clear hs1
        have hO : Pl.out d (4 * c + 1) = false := by rw [out_one (by omega), show (4 * c + 1) / 4 = c by omega, beq_eq_false_iff_ne]; exact S1.out
        rw [hO]
        clear hO
        go_wp2
        go_roundg 1
        case measure => have := HG0.out; omega
        case rel => exact ⟨2, rfl, by go_num, fun _ => Q0.out (by omega), fun _ h => absurd h S1.out, fun h => absurd h (by omega), B2.out, X2.out⟩
    · go_wp2_with fail
      refine (out2_i d A B d.n cp m cq (.int .i64 d.lp) _ _ rfl (by omega) (by omega) (HG.out.s.keep B1.out)).mono ?_
      rintro e w2 ⟨rfl, hb2⟩
      have B2 := hide (B1.out.trans (hb2.mono B1.out.size))
      have X2 := hide (X1.out.below hb2)
      have HG2 := hide (HG.out.keep B2.out)
      have et : (4 * (c : Int) + 3).toNat = 4 * c + 3 := by omega
      rw [et]
      clear et hb2
      obtain ⟨b, o, rfl, cm⟩ := mate_at HG2.out.m (k := 4 * c + 3) (by omega)
      obtain ⟨f0, f1, f2, f3⟩ := box3 X2.out
      have g1 : (0 : Int) ≤ 4 * (c : Int) + 3 := by omega
      have g2 : 4 * (c : Int) + 3 < (m : Int) := by have := HM.out; omega
      have lt := hd.lt (4 * c + 3) (by omega)
      obtain ⟨x, hx⟩ : ∃ x, x = d.m (4 * c + 3) := ⟨_, rfl⟩
      rw [← hx] at cm lt
      have HX := hide hx
      clear hx
      by_cases hs1 : d.s c = -1
      · have S1 := hide hs1
        have S2 := hide (show ¬ d.s c = 1 by omega)
        clear hs1
        have hO : Pl.out d (4 * c + 3) = true := by rw [out_three (by omega), show (4 * c + 3) / 4 = c by omega, S1.out]; rfl
        rw [hO]
        clear hO
        by_cases hk : x / 4 = c
        · have t1 : ((x : Int) / 4 == (c : Int)) = true := by rw [beq_iff_eq]; omega
          have HK := hide hk
          clear hk
          go_wp2_with fail
          go_quiet ((go_at_call 100; exact Calls.quiet_of_same (opp_i _ _ (by omega))))
          go_wp2
          go_ret3
          have hkk : kk d c = 4 * c + 3 := by unfold kk; rw [if_neg (Q0.out (by omega)), if_neg S2.out]
          refine kink_at hkk (by rw [← HX.out]; exact HK.out) ?_ (below_drewN B2.out _)
          rw [← HX.out, show (4 * (c : Int) + 3).toNat = 4 * c + 3 by omega, Int.toNat_natCast]
          rfl
        · have t1 : ((x : Int) / 4 == (c : Int)) = false := by rw [beq_eq_false_iff_ne]; omega
          have HK := hide hk
          clear hk
          go_wp2
          go_roundg 0
          case measure => have := HG0.out; omega
          case rel => exact ⟨3, rfl, by go_num, fun _ => Q0.out (by omega), fun _ => Q1.out (by omega), fun _ _ => by rw [← HX.out]; exact HK.out, B2.out, X2.out⟩
      · have S1 := hide hs1
        clear hs1
        have hO : Pl.out d (4 * c + 3) = false := by rw [out_three (by omega), show (4 * c + 3) / 4 = c by omega, beq_eq_false_iff_ne]; exact S1.out
        rw [hO]
        clear hO
        go_wp2
        go_roundg 0
        case measure => have := HG0.out; omega
        case rel => exact ⟨3, rfl, by go_num, fun _ => Q0.out (by omega), fun _ => Q1.out (by omega), fun _ h => absurd h S1.out, B2.out, X2.out⟩
    · go_wp2
      go_ret3
      refine kink_no ?_ rfl B1.out
      unfold kk
      have h0 := Q0.out (by omega)
      rw [if_neg h0]
      rcases hd.sign c hc with h | h
      · rw [if_pos h]; exact Q1.out (by omega) h
      · rw [if_neg (by omega)]; exact Q2.out (by omega) h
end Go.Proofs.Ytghdiolnonejaaa
end

section
namespace Go.Proofs.Ytghdiolnonejaaa
open Go.RowKit
/-- How many of the first k gone crossings lie ahead of h. -/
def ahd (gs : List Nat) (h k : Nat) : Nat := ((gs.take k).filter (fun c => decide (c < h / 4))).length
theorem ahd_le (gs : List Nat) (h k : Nat) : ahd gs h k ≤ k := by
  unfold ahd
  have := List.length_filter_le (fun c => decide (c < h / 4)) (gs.take k)
  have := List.length_take_le k gs
  omega
theorem ahd_succ {gs : List Nat} {k : Nat} (hk : k < gs.length) (h : Nat) : ahd gs h (k + 1) = ahd gs h k + if gs.getD k 0 < h / 4 then 1 else 0 := by
  unfold ahd
  rw [List.take_succ_eq_append_getElem hk, List.filter_append, List.length_append, List.getD_eq_getElem?_getD, List.getElem?_eq_getElem hk]
  by_cases e : gs[k] < h / 4 <;> simp [List.filter_cons, e]
theorem ahd_all {gs : List Nat} {k : Nat} (hk : gs.length ≤ k) (h : Nat) : ahd gs h k = (gs.filter (fun c => decide (c < h / 4))).length := by
  unfold ahd
  rw [List.take_of_length_le hk]
theorem nats_at {w : World} {A : Option Addr} {n k : Nat} {gs : List Nat} (h : IntsAt w A n (nats gs)) (hk : k < n) :
    ∃ b o, A = some ⟨b, o, none⟩ ∧ w.cell? ⟨b, o + k, none⟩ = some (.int .i64 (gs.getD k 0 : Nat)) := by
  obtain ⟨b, o, e, hc⟩ := h.at_ hk
  refine ⟨b, o, e, hc.trans ?_⟩
  have hl := h.len
  unfold nats at hl ⊢
  rw [List.length_map] at hl
  rw [List.getD_eq_getElem?_getD, List.getD_eq_getElem?_getD, List.getElem?_map, List.getElem?_eq_getElem (by omega)]; rfl
set_option maxRecDepth 100000 in
set_option maxHeartbeats 1000000 in
theorem shifted_any (gs : List Nat) (A : Option Addr) (n c h : Nat) (w : World) (hg : IntsAt w A n (nats gs)) (hn : n ≤ 100) (hh : h ≤ 100000) (hf : Pl.Few gs) :
    Calls Try.prog 83 #[.int .i64 (h : Int), .slice A n c] w fun e w' => e = .returned (.int .i64 (Pl.shf gs h : Nat)) ∧ w' = w := by
  have hl := hg.len
  unfold nats at hl
  rw [List.length_map] at hl
  have HL := hide hl
  have HG := hide hg
  clear hl hg
  go_enter Try.func83, Try.ntmps83
  go_wp2
  go_loop [5, 10] (fun b i => ∃ k : Nat, k ≤ n ∧ i = .int .i64 k ∧ b = .int .i64 (4 * (ahd gs h k : Nat))) (fun _ i => n - (intOf i).toNat)
  case atStart => exact ⟨0, by omega, rfl, rfl⟩
  case round =>
    obtain ⟨k, hk, rfl, rfl⟩ := hrel
    have hle := ahd_le gs h k
    by_cases hlt : k < n
    · obtain ⟨b, o, rfl, hc⟩ := nats_at HG.out hlt
      have HS := hide (ahd_succ (gs := gs) (k := k) (by have := HL.out; omega) h)
      obtain ⟨x, hx⟩ : ∃ x, x = gs.getD k 0 := ⟨_, rfl⟩
      rw [← hx] at hc HS
      clear hx
      by_cases ht : x < h / 4
      · have HT := hide ht
        have t1 : decide ((x : Int) < (h : Int) / 4) = true := by simp; omega
        clear ht
        go_wp2
        go_round
        case rel => exact ⟨k + 1, by omega, by go_num, by rw [HS.out, if_pos HT.out]; go_num⟩
        case measure => simp [intOf]; omega
      · have HT := hide ht
        have t1 : decide ((x : Int) < (h : Int) / 4) = false := by simp; omega
        clear ht
        go_wp2
        go_round
        case rel => exact ⟨k + 1, by omega, by go_num, by rw [HS.out, if_neg HT.out]; go_num⟩
        case measure => simp [intOf]; omega
    · go_wp2
      go_ret
      refine ⟨ret_int ?_, rfl⟩
      have h1 := ahd_all (gs := gs) (k := k) (by have := HL.out; omega) h
      have h2 := Pl.shf_le hf h
      unfold Pl.shf
      rw [h1]
      omega
end Go.Proofs.Ytghdiolnonejaaa
end
