/-
 The texts Wc, Mk, Reg, Val, Shr, Wj, Wk, Wl, Wm, Cyc, Wr, Prt, Xa, Xe, Ws, Wu, Wo, Wx, Dc in one.
-/
import Derived.Test.YtcaoblilkgajoaaDoorC02
import Derived.Test.YtcaoblilkgajoaaDoorC00
import Derived.Deep.QuietTactic
import Derived.BigQuiet
import Derived.Test.YtcaoblilkgajoaaDoorShelf
import Derived.Deep.AppendLies
import Derived.Maps.AppendAt
import Derived.Deep.RegionLaw
import Derived.StillTailTactics
import Derived.Deep.RegionHeld3
import Derived.Deep.DrawnRows
import Derived.Outline
import Derived.Deep.DeepCutAuto
import Derived.Deep.CutBlock
import Derived.Laws.MakeOwn
import Derived.RegionTactic
set_option linter.unusedVariables false
set_option linter.unusedSimpArgs false
section
namespace Go.Proofs.YtcaoblilkgajoaaDoor
open Go.RowKit
set_option maxRecDepth 100000 in
set_option maxHeartbeats 4000000 in
theorem spherical_any (d : Pl.Dg) (hd : Pl.Wf d) (A B : Option Addr) (cp cq : Nat) (l : Value) (w : World) (hl : l = .int .i64 d.lp) (hg : DgAt w A B d) :
 Calls Tryd.prog 57 #[.agg #[.slice A d.n cp, .slice B (4 * d.n) cq, l]] w fun e w' => e = .returned (.bool (Pl.vb (Pl.Rule d))) ∧ Below w.heap.size w w' := by
 subst hl
 have hn := hd.few
 have HF := hide hd
 clear hd
 obtain ⟨m, hm⟩ : ∃ m, m = 4 * d.n := ⟨_, rfl⟩
 rw [← hm]
 have HM := hide hm
 have hm6 : m ≤ 256 := by omega
 clear hm
 go_enter Tryd.func57, Tryd.ntmps57
 go_wp2_with fail
 have b0 : Below w.heap.size w (w.alloc (.cells #[.slice A d.n cp, .slice B m cq, .int .i64 d.lp] 28)) := (Below.refl _ _).alloc (Nat.le_refl _) _
 have x0 : Row (w.alloc (.cells #[.slice A d.n cp, .slice B m cq, .int .i64 d.lp] 28)) w.heap.size 28 (boxV A B d.n cp m cq (.int .i64 d.lp)) := Row.new w _ _
 refine (label_m d HF.out A B cp cq m _ _ HM.out (hg.keep b0)).mono ?_
 rintro e w1 ⟨ps, P, g, rfl, hlb, hall, hgb, hrow, hb1⟩
 have X1 := hide (x0.below hb1)
 have B1 := hide (b0.trans (hb1.mono (by simp)))
 have hPn := hlb.le
 have HLB := hide hlb
 have HALL := hide hall
 have HLen := hide hlb.len
 have R1 := hide hrow
 have hg0 : w.heap.size + 1 ≤ g := by simpa using hgb
 have hg1 : g < w1.heap.size := hrow.lt
 clear b0 x0 hb1 hlb hall hrow hgb
 have hmk := run_ints P (by omega) w1
 go_wp2
 clear hmk
 obtain ⟨W2, hW2⟩ : ∃ W2 : World, W2 = w1.alloc (.cells (Array.replicate P (Value.int .i64 0)) 3) := ⟨_, rfl⟩
 have B2 := hide (show Below w.heap.size w W2 by rw [hW2]; exact B1.out.alloc (by omega) _)
 have X2 := hide (show Row W2 w.heap.size 28 (boxV A B d.n cp m cq (.int .i64 d.lp)) by rw [hW2]; exact X1.out.alloc _)
 have R2 := hide (show IRow W2 g ps by rw [hW2]; exact Row.alloc R1.out _)
 have E2 := hide (show IRow W2 w1.heap.size (List.replicate P 0) by rw [hW2]; exact IRow.made w1 P)
 rw [← hW2]
 clear hW2 B1 X1 R1
 generalize w1.heap.size = eb at hg1 E2 ⊢
 go_loopg [22] d.n (fun g' i wx => ∃ (k : Nat) (es : List Int), k + g' = d.n ∧ i = .int .i64 k ∧ Pl.Ex d ps es P k 0 ∧ Below w.heap.size w wx ∧ Row wx w.heap.size 28 (boxV A B d.n cp m cq (.int .i64 d.lp)) ∧ IRow wx g ps ∧ IRow wx eb es)
 case atStart => exact ⟨0, _, by omega, rfl, Pl.Ex.start d ps P, B2.out, X2.out, R2.out, E2.out⟩
 case round =>
  clear B2 X2 R2 E2
  obtain ⟨k, es, hkg, rfl, hex, b3, x3, r3, e3⟩ := hrel
  have HG := hide hkg
  have HE := hide hex
  have hks : k ≤ d.n := by omega
  have hel := hex.1
  have HEL := hide hel
  clear hkg hex
  by_cases hlt : k < d.n
  ·obtain ⟨q, hq⟩ : ∃ q : Nat, Pl.pv ps k = q := ⟨(Pl.pv ps k).toNat, by have := HALL.out k hlt; omega⟩
   have hqP : q < P := by have := (HLB.out.lo k hlt).2; omega
   have c1 := r3.cell (i := k) (by have := HLen.out; omega)
   rw [hq] at c1
   have c2 := e3.cell (i := q) (by omega)
   have f2 := Row.free e3 q
   have hlo : -1000 ≤ Pl.pv es q ∧ Pl.pv es q ≤ 1000 := by
    have h1 := HE.out.2 q hqP
    have h2 : Pl.nf d ps q 0 = 0 := rfl
    have h3 : Pl.nv ps q k ≤ k := Pl.cnt_top _ k
    omega
   have HQ := hide hq
   have B3 := hide b3
   have X3 := hide x3
   have R3 := hide r3
   have E3 := hide e3
   clear hq b3 x3 r3 e3 hel
   go_wp2
   go_roundg (gk - 1)
   case measure => have := HG.out; omega
   case rel =>
    refine ⟨k + 1, _, by have := HG.out; omega, by go_num, HE.out.less hqP HQ.out, B3.out.setCell (by simp; omega) _, X3.out.other (by simp; omega) _, Row.other R3.out (by simp; omega) _, E3.out.set q (Pl.pv es q - 1)⟩
  ·have hkn : k = d.n := by omega
   have HE' := hide (show Pl.Ex d ps es P d.n 0 by have := HE.out; rw [hkn] at this; exact this)
   have hmk2 := run_bools m (by omega) wr
   have B3 := hide b3
   have X3 := hide x3
   have R3 := hide r3
   have E3 := hide e3
   have x3c : wr.cell? ⟨w.heap.size, 1, none⟩ = some (.slice B m cq) := x3.cell (i := 1) (by show 1 < 3; omega)
   have ewz : eb < wr.heap.size := e3.lt
   have x3d : (wr.alloc (.cells (Array.replicate m (Value.bool false)) 4)).cell? ⟨w.heap.size, 1, none⟩ = some (.slice B m cq) := (x3.alloc _).cell (i := 1) (by show 1 < 3; omega)
   clear b3 x3 r3 e3 hkn HE hel
   go_wp2
   clear hmk2 x3c x3d
   obtain ⟨W4, hW4⟩ : ∃ W4 : World, W4 = wr.alloc (.cells (Array.replicate m (Value.bool false)) 4) := ⟨_, rfl⟩
   have B4 := hide (show Below w.heap.size w W4 by rw [hW4]; exact B3.out.alloc (by omega) _)
   have X4 := hide (show Row W4 w.heap.size 28 (boxV A B d.n cp m cq (.int .i64 d.lp)) by rw [hW4]; exact X3.out.alloc _)
   have R4 := hide (show IRow W4 g ps by rw [hW4]; exact Row.alloc R3.out _)
   have E4 := hide (show IRow W4 eb es by rw [hW4]; exact Row.alloc E3.out _)
   have S4 := hide (show BRow W4 wr.heap.size (List.replicate (4 * d.n) false) by rw [hW4, ← HM.out]; exact BRow.made wr m)
   rw [← hW4]
   clear hW4 B3 X3 R3 E3
   generalize wr.heap.size = sb at ewz S4 ⊢
   go_loopg [40] m (fun g' i wx => ∃ (k : Nat) (es : List Int) (bs : List Bool), k + g' = m ∧ i = .int .i64 k ∧ Pl.Ex d ps es P d.n k ∧ Pl.SQ d k bs ∧ Below w.heap.size w wx ∧ Row wx w.heap.size 28 (boxV A B d.n cp m cq (.int .i64 d.lp)) ∧ IRow wx g ps ∧ IRow wx eb es ∧ BRow wx sb bs)
   case atStart => exact ⟨0, es, _, by omega, rfl, HE'.out, Pl.SQ.start d, B4.out, X4.out, R4.out, E4.out, S4.out⟩
   case round =>
    clear B4 X4 R4 E4 S4 HG HEL HE'
    obtain ⟨j, e5, bs, hjg, rfl, hex, hsq, b6, x6, r6, e6, s6⟩ := hrel
    have HG := hide hjg
    have HE := hide hex
    have HS := hide hsq
    have hjs : j ≤ m := by omega
    have HEL := hide hex.1
    have HSL := hide hsq.len
    clear hjg hex hsq
    by_cases hjm : j < m
    ·have hj4 : j < 4 * d.n := by have := HM.out; omega
     have c1 := s6.cell (i := j) (by have := HSL.out; omega)
     by_cases hseen : Pl.gb bs j = true
     ·have c1' : wr.cell? ⟨sb, j, none⟩ = some (.bool true) := by rw [c1]; exact congrArg (fun b => some (Value.bool b)) hseen
      have B6 := hide b6
      have X6 := hide x6
      have R6 := hide r6
      have E6 := hide e6
      have S6 := hide s6
      have HSE := hide (HS.out.seen HF.out hj4 hseen)
      clear c1 b6 x6 r6 e6 s6 hseen
      go_wp2
      go_roundg (gk - 1)
      case measure => have := HG.out; omega
      case rel => exact ⟨j + 1, e5, bs, by have := HG.out; omega, by go_num, HE.out.same HSE.out.2, HSE.out.1, B6.out, X6.out, R6.out, E6.out, S6.out⟩
     ·have hseen' : Pl.gb bs j = false := by simpa using hseen
      have c1' : wr.cell? ⟨sb, j, none⟩ = some (.bool false) := by rw [c1]; exact congrArg (fun b => some (Value.bool b)) hseen'
      have HSE := hide (HS.out.enter HF.out hj4 hseen')
      have hj4' : j / 4 < d.n := by omega
      obtain ⟨q, hq⟩ : ∃ q : Nat, Pl.pv ps (j / 4) = q := ⟨(Pl.pv ps (j / 4)).toNat, by have := HALL.out (j / 4) hj4'; omega⟩
      have hqP : q < P := by have := (HLB.out.lo (j / 4) hj4').2; omega
      have c2 := r6.cell (i := j / 4) (by have := HLen.out; omega)
      rw [hq] at c2
      have c3 := e6.cell (i := q) (by have := HEL.out; omega)
      have f3 := Row.free e6 q
      have hlo : -1000 ≤ Pl.pv e5 q ∧ Pl.pv e5 q ≤ 1000 := by
       have h1 := HE.out.2 q hqP
       have h2 : Pl.nf d ps q j ≤ j := Pl.cnt_top _ j
       have h3 : Pl.nv ps q d.n ≤ d.n := Pl.cnt_top _ d.n
       omega
      have HQ := hide hq
      have B6 := hide b6
      have X6 := hide x6
      have R6 := hide r6
      have E6 := hide e6
      have S6 := hide s6
      obtain ⟨wo, rfl⟩ : ∃ wo : World, wo = wr := ⟨_, rfl⟩
      clear c1 b6 x6 r6 e6 s6 hseen hseen' hq
      go_wp2
      obtain ⟨W5, hW5⟩ : ∃ W5 : World, W5 = wo.setCell ⟨eb, q, none⟩ (.int .i64 (Pl.pv e5 q + 1)) := ⟨_, rfl⟩
      have B7 := hide (show Below w.heap.size w W5 by rw [hW5]; exact B6.out.setCell (by simp; omega) _)
      have X7 := hide (show Row W5 w.heap.size 28 (boxV A B d.n cp m cq (.int .i64 d.lp)) by rw [hW5]; exact X6.out.other (by simp; omega) _)
      have R7 := hide (show IRow W5 g ps by rw [hW5]; exact Row.other R6.out (by simp; omega) _)
      have E7 := hide (show IRow W5 eb (e5.set q (Pl.pv e5 q + 1)) by rw [hW5]; exact E6.out.set q _)
      have S7 := hide (show BRow W5 sb bs by rw [hW5]; exact Row.other S6.out (by simp; omega) _)
      rw [← hW5]
      clear hW5 B6 X6 R6 E6 S6 c1' c2 c3 f3
      go_loopg [10] (Pl.uns bs) (fun g' v wx => ∃ (i : Nat) (b8 : List Bool), g' = Pl.uns b8 ∧ v = .int .i64 (Pl.it (Pl.nx d) i j : Nat) ∧ Pl.SI d j i b8 ∧ Below w.heap.size w wx ∧ Row wx w.heap.size 28 (boxV A B d.n cp m cq (.int .i64 d.lp)) ∧ IRow wx g ps ∧ IRow wx eb (e5.set q (Pl.pv e5 q + 1)) ∧ BRow wx sb b8)
      case atStart => exact ⟨0, bs, rfl, rfl, HSE.out.1, B7.out, X7.out, R7.out, E7.out, S7.out⟩
      case round =>
       clear B7 X7 R7 E7 S7
       obtain ⟨i, b8, hgk, rfl, hsi, b9, x9, r9, e9, s9⟩ := hrel
       have HGK := hide hgk
       have HSI := hide hsi
       have HSZ := hide hsi.len
       have hcur4 := hsi.lt HF.out
       clear hgk hsi
       obtain ⟨cur, hcur⟩ : ∃ cur, cur = Pl.it (Pl.nx d) i j := ⟨_, rfl⟩
       rw [← hcur] at hcur4 ⊢
       have HC := hide hcur
       clear hcur
       have hcm : cur < m := by have := HM.out; omega
       have c1 := s9.cell (i := cur) (by have := HSZ.out; omega)
       have f1 := Row.free s9 cur
       by_cases hseen : Pl.gb b8 cur = true
       ·have c1' : wr.cell? ⟨sb, cur, none⟩ = some (.bool true) := by rw [c1]; exact congrArg (fun b => some (Value.bool b)) hseen
        have HD := hide (HSI.out.done HF.out (by rw [← HC.out]; exact hseen))
        have B9 := hide b9
        have X9 := hide x9
        have R9 := hide r9
        have E9 := hide e9
        have S9 := hide s9
        clear c1 f1 b9 x9 r9 e9 s9 hseen
        go_wp2
        go_roundg (m - (j + 1))
        case measure => have := HG.out; omega
        case rel => exact ⟨j + 1, _, b8, by omega, by go_num, HE.out.more hqP HQ.out HSE.out.2, HD.out, B9.out, X9.out, R9.out, E9.out, S9.out⟩
       ·have hseen' : Pl.gb b8 cur = false := by simpa using hseen
        have c1' : wr.cell? ⟨sb, cur, none⟩ = some (.bool false) := by rw [c1]; exact congrArg (fun b => some (Value.bool b)) hseen'
        obtain ⟨bb, bo, rfl, hmc⟩ := mate_at hg.m hcur4
        have hml := HF.out.lt _ hcur4
        have b10 : Below w.heap.size w (wr.setCell ⟨sb, cur, none⟩ (.bool true)) := b9.setCell (by simp; omega) _
        have c2 := cell_below hmc b10
        have x10 : Row (wr.setCell ⟨sb, cur, none⟩ (.bool true)) w.heap.size 28 (boxV A (some ⟨bb, bo, none⟩) d.n cp m cq (.int .i64 d.lp)) := x9.other (by simp; omega) _
        have c3 : (wr.setCell ⟨sb, cur, none⟩ (.bool true)).cell? ⟨w.heap.size, 1, none⟩ = some (.slice (some ⟨bb, bo, none⟩) m cq) := x10.cell (i := 1) (by show 1 < 3; omega)
        have B9 := hide b10
        have X9 := hide x10
        have R9 := hide (show IRow (wr.setCell ⟨sb, cur, none⟩ (.bool true)) g ps from Row.other r9 (by simp; omega) _)
        have E9 := hide (show IRow (wr.setCell ⟨sb, cur, none⟩ (.bool true)) eb (e5.set q (Pl.pv e5 q + 1)) from Row.other e9 (by simp; omega) _)
        have S9 := hide (s9.set cur true)
        have HU := hide (Pl.uns_set (by have := HSZ.out; omega) hseen')
        clear c1 b10 x10 b9 x9 r9 e9 s9 hseen hseen' hmc
        go_wp2_with fail
        refine (turn_back _ _ (by omega)).mono ?_
        rintro e w9 ⟨rfl, rfl⟩
        go_wp2
        go_roundg (gk - 1)
        case measure => have h1 := HGK.out; have h2 := HU.out; omega
        case rel => exact ⟨i + 1, b8.set cur true, by have h1 := HGK.out; have h2 := HU.out; omega, by rw [HC.out]; rfl, by have := HSI.out.step HF.out; rw [← HC.out] at this; exact this, B9.out, X9.out, R9.out, E9.out, S9.out⟩
    ·have hjm' : j = 4 * d.n := by have := HM.out; omega
     have HE' := hide (show Pl.Ex d ps e5 P d.n (4 * d.n) by have := HE.out; rw [hjm'] at this; exact this)
     have HR := hide (HE'.out.rule HF.out HLB.out HALL.out)
     have B6 := hide b6
     have E6 := hide e6
     clear b6 x6 r6 e6 s6 hjm' HE
     go_wp2
     go_loopg [75] P (fun g' i wx => ∃ k : Nat, k + g' = P ∧ i = .int .i64 k ∧ (∀ p, p < k → Pl.pv e5 p = 2) ∧ Below w.heap.size w wx ∧ IRow wx eb e5)
     case atStart => exact ⟨0, by omega, rfl, fun p hp => absurd hp (by omega), B6.out, E6.out⟩
     case round =>
      clear B6 E6
      obtain ⟨k, hkg, rfl, hall2, b7, e7⟩ := hrel
      have HGG := hide hkg
      have HA2 := hide hall2
      have hkP : k ≤ P := by omega
      clear hkg hall2
      by_cases hlt : k < P
      ·have c1 := e7.cell (i := k) (by have := HEL.out; omega)
       have B7 := hide b7
       have E7 := hide e7
       clear b7 e7
       by_cases h2 : Pl.pv e5 k = 2
       ·have H2 := hide h2
        rw [h2] at c1
        clear h2
        go_wp2
        go_roundg (gk - 1)
        case measure => have := HGG.out; omega
        case rel =>
         refine ⟨k + 1, by have := HGG.out; omega, by go_num, fun p hp => ?_, B7.out, E7.out⟩
         by_cases e : p = k
         ·rw [e]; exact H2.out
         ·exact HA2.out p (by omega)
       ·have hb2 : (Pl.pv e5 k != 2) = true := by rw [bne_iff_ne]; exact h2
        have H2 := hide h2
        clear h2
        go_wp2
        go_ret
        exact ⟨ret_bool (Pl.vb_false (fun hr => H2.out (HR.out.2 hr k hlt))).symm, B7.out⟩
      ·have hkP' : k = P := by omega
       have B7 := hide b7
       clear b7 e7
       go_wp2
       go_ret
       exact ⟨ret_bool (Pl.vb_true (HR.out.1 (fun p hp => HA2.out p (by omega)))).symm, B7.out⟩
theorem spherical_n (d : Pl.Dg) (hd : Pl.Wf d) (A B : Option Addr) (n q cp cq : Nat) (l : Value) (w : World) (e1 : n = d.n) (e2 : q = 4 * d.n) (hl : l = .int .i64 d.lp) (hg : DgAt w A B d) :
 Calls Tryd.prog 57 #[.agg #[.slice A n cp, .slice B q cq, l]] w fun e w' => e = .returned (.bool (Pl.vb (Pl.Rule d))) ∧ Below w.heap.size w w' := by
 subst e1; subst e2; exact spherical_any d hd A B cp cq l w hl hg
end Go.Proofs.YtcaoblilkgajoaaDoor
end
section
namespace Go.Proofs.YtcaoblilkgajoaaDoor.Pl
def mk (sg mt : List Int) (lp : Int) : Dg := ⟨sg, mt.map Int.toNat, lp.toNat⟩
def VL (sg mt : List Int) (lp : Int) : Prop := Valid (mk sg mt lp) ∧ (∀ z, z ∈ mt → 0 ≤ z) ∧ 0 ≤ lp
variable {sg mt : List Int} {lp : Int}
theorem mk_n (sg mt : List Int) (lp : Int) : (mk sg mt lp).n = sg.length := rfl
theorem mk_m {h : Nat} (hh : h < mt.length) : (mk sg mt lp).m h = (pv mt h).toNat := by
 unfold Dg.m mk pv
 rw [List.getD_eq_getElem?_getD, List.getD_eq_getElem?_getD, List.getElem?_map, List.getElem?_eq_getElem hh]; rfl
theorem nats_mk (h : ∀ z, z ∈ mt → 0 ≤ z) : (mk sg mt lp).mt.map (fun m : Nat => (m : Int)) = mt := by
 unfold mk
 rw [List.map_map]
 refine (List.map_congr_left (fun z hz => ?_)).trans (List.map_id mt)
 have := h z hz
 simp only [Function.comp_apply, id_eq]
 omega
theorem pv_mem {l : List Int} {h : Nat} (hh : h < l.length) : pv l h ∈ l := by
 unfold pv
 rw [List.getD_eq_getElem?_getD, List.getElem?_eq_getElem hh]
 exact List.getElem_mem hh
theorem VL.few (h : VL sg mt lp) : sg.length ≤ 64 := h.1.wf.few
theorem VL.len (h : VL sg mt lp) : mt.length = 4 * sg.length := by have := h.1.wf.len; unfold mk Dg.n at this; simpa using this
theorem VL.loops (h : VL sg mt lp) : 0 ≤ lp ∧ lp ≤ 64 := by
 have h1 := h.1.wf.lp
 have h2 := h.2.2
 unfold mk at h1
 simp only at h1
 omega
theorem VL.sign (h : VL sg mt lp) {c : Nat} (hc : c < sg.length) : pv sg c = 1 ∨ pv sg c = -1 := h.1.wf.sign c hc
theorem VL.mate (h : VL sg mt lp) {k : Nat} (hk : k < mt.length) : 0 ≤ pv mt k ∧ pv mt k < mt.length ∧ pv mt k ≠ k ∧ pv mt (pv mt k).toNat = k ∧ out (mk sg mt lp) k ≠ out (mk sg mt lp) (pv mt k).toNat := by
 have hl := h.len
 have hw := h.1.wf
 have h0 := h.2.1 _ (pv_mem hk)
 have hk4 : k < 4 * (mk sg mt lp).n := by rw [mk_n]; omega
 have h1 := hw.lt k hk4
 have h2 := hw.ne k hk4
 have h3 := hw.inv k hk4
 have h4 := hw.way k hk4
 rw [mk_m hk] at h1 h2 h3 h4
 rw [mk_n] at h1
 have hm : (pv mt k).toNat < mt.length := by omega
 rw [mk_m hm] at h3
 have h5 := h.2.1 _ (pv_mem hm)
 exact ⟨h0, by omega, by omega, by omega, h4⟩
theorem wf_of (h1 : sg.length ≤ 64) (h2 : mt.length = 4 * sg.length) (h3 : 0 ≤ lp ∧ lp ≤ 64) (h4 : ∀ c, c < sg.length → pv sg c = 1 ∨ pv sg c = -1)
 (h5 : ∀ k, k < mt.length → 0 ≤ pv mt k ∧ pv mt k < mt.length ∧ pv mt k ≠ k ∧ pv mt (pv mt k).toNat = k ∧ out (mk sg mt lp) k ≠ out (mk sg mt lp) (pv mt k).toNat) : Wf (mk sg mt lp) := by
 refine ⟨h1, by unfold mk Dg.n; simpa using h2, by unfold mk; simp only; omega, h4, fun h hh => ?_, fun h hh => ?_, fun h hh => ?_, fun h hh => ?_⟩
 all_goals
  rw [mk_n] at hh
  have hl : h < mt.length := by omega
  obtain ⟨g1, g2, g3, g4, g5⟩ := h5 h hl
  rw [mk_m hl]
 ·rw [mk_n]; omega
 ·omega
 ·rw [mk_m (by omega), g4]; rfl
 ·exact g5
theorem VL.of (hw : Wf (mk sg mt lp)) (hp : ∀ z, z ∈ mt → 0 ≤ z) (hl : 0 ≤ lp) : VL sg mt lp ↔ Rule (mk sg mt lp) :=
 ⟨fun h => h.1.flat, fun h => ⟨⟨hw, h⟩, hp, hl⟩⟩
theorem mem_pv {l : List Int} {z : Int} (h : z ∈ l) : ∃ k, k < l.length ∧ pv l k = z := by
 obtain ⟨k, hk, e⟩ := List.mem_iff_getElem.1 h
 exact ⟨k, hk, by unfold pv; rw [List.getD_eq_getElem?_getD, List.getElem?_eq_getElem hk]; exact e⟩
end Go.Proofs.YtcaoblilkgajoaaDoor.Pl
end
section
namespace Go.Proofs.YtcaoblilkgajoaaDoor
open Go.RowKit
structure Cls (C : World → Prop) where
 w : World
 ok : C w
theorem wp_region_cls {P : Program} (C : World → Prop) {id : Nat} {Q : Exit → Act → World → Prop} {a : Act} {w : World} {l : List Oper} (hm : P.follows .mixedOrders = true) (hB : Region.lexB .any l.toArray = true)
 (hC : C { w with drawn := w.drawn + 1 })
 (h : Nonempty (Cls C) → wpQuiet P l.toArray (fun w' => ∃ p : Cls C, w' = p.w) (fun a' => ∀ w', (∃ p : Cls C, w' = p.w) → Q .normal a' w') l a) : (Code.region id l.toArray true).wp P Q a w :=
 wp_region_quiet (C := fun w' => ∃ p : Cls C, w' = p.w) hm hB ⟨⟨_, hC⟩, rfl⟩ (by simpa using h ⟨⟨_, hC⟩⟩)
theorem calls_cls {P : Program} {C : World → Prop} {f : FuncId} {args : Array Value} {w : World} {v : Value} {R : Ending → World → Prop} (h : Calls P f args w R) (hR : ∀ e w', R e w' → e = .returned v ∧ C w') :
 Calls P f args w fun e w'' => e = .returned v ∧ ∃ p : Cls C, w'' = p.w :=
 h.mono fun e w' hr => let ⟨h1, h2⟩ := hR e w' hr; ⟨h1, ⟨w', h2⟩, rfl⟩
end Go.Proofs.YtcaoblilkgajoaaDoor
end
section
namespace Go.Proofs.YtcaoblilkgajoaaDoor
open Go.RowKit
theorem ints_pv {w : World} {A : Option Addr} {n k : Nat} {zs : List Int} (h : IntsAt w A n zs) (hk : k < n) :
 ∃ b o, A = some ⟨b, o, none⟩ ∧ w.cell? ⟨b, o + k, none⟩ = some (.int .i64 (Pl.pv zs k)) := h.at_ hk
set_option maxRecDepth 100000 in
set_option maxHeartbeats 1500000 in
theorem valid_any (sg mt : List Int) (lp : Int) (A B : Option Addr) (n q cp cq : Nat) (w : World) (hs : IntsAt w A n sg) (hm : IntsAt w B q mt) (hn : n ≤ maxLen) (hq : q ≤ maxLen) (hlp : -9223372036854775808 ≤ lp ∧ lp ≤ 9223372036854775807) :
 Calls Tryd.prog 30 #[.agg #[.slice A n cp, .slice B q cq, .int .i64 lp]] w fun e w' => e = .returned (.bool (Pl.vb (Pl.VL sg mt lp))) ∧ Below w.heap.size w w' := by
 unfold maxLen at hn hq
 have HLS := hide hs.len
 have HLM := hide hm.len
 have b0 : Below w.heap.size w (w.alloc (.cells #[.slice A n cp, .slice B q cq, .int .i64 lp] 28)) := (Below.refl _ _).alloc (Nat.le_refl _) _
 by_cases h1 : 64 < n
 ·have HV := hide (fun h : Pl.VL sg mt lp => show False by have := h.few; have := HLS.out; omega)
  go_enter Tryd.func30, Tryd.ntmps30
  go_wp2
  go_ret
  exact ⟨ret_bool (Pl.vb_false HV.out).symm, b0⟩
 ·have h1' : decide (64 < (n : Int)) = false := by simp; omega
  by_cases h2 : q = 4 * n
  ·by_cases h3 : 0 ≤ lp ∧ lp ≤ 64
   ·have h2' : (((q : Nat) : Int) != 4 * (n : Int)) = false := by simp; omega
    have h3a : decide (lp < 0) = false := by simp; omega
    have h3b : decide (64 < lp) = false := by simp; omega
    have HQ4 := hide h2
    have hq6 : q ≤ 256 := by omega
    clear h2
    have x0 : Row (w.alloc (.cells #[.slice A n cp, .slice B q cq, .int .i64 lp] 28)) w.heap.size 28 (boxV A B n cp q cq (.int .i64 lp)) := Row.new w _ _
    go_enter Tryd.func30, Tryd.ntmps30
    go_wp2
    have B0 := hide b0
    have X0 := hide x0
    clear b0 x0 h1' h2' h3a h3b
    go_loopg [34] n (fun g i wx => ∃ k : Nat, k + g = n ∧ i = .int .i64 k ∧ (∀ c, c < k → Pl.pv sg c = 1 ∨ Pl.pv sg c = -1) ∧ Below w.heap.size w wx ∧ Row wx w.heap.size 28 (boxV A B n cp q cq (.int .i64 lp)))
    case atStart => exact ⟨0, by omega, rfl, fun c hc => absurd hc (by omega), B0.out, X0.out⟩
    case round =>
     clear B0 X0
     obtain ⟨k, hkg, rfl, hsg, b1, x1⟩ := hrel
     have HG := hide hkg
     have HSG := hide hsg
     have hkn : k ≤ n := by omega
     clear hkg hsg
     by_cases hlt : k < n
     ·obtain ⟨ab, ao, rfl, hc⟩ := ints_pv hs hlt
      have hc1 := cell_below hc b1
      have B1 := hide b1
      have X1 := hide x1
      clear b1 x1 hc
      by_cases hz : Pl.pv sg k = 1
      ·have HZ := hide hz
       rw [hz] at hc1
       clear hz
       go_wp2
       go_roundg (gk - 1)
       case measure => have := HG.out; omega
       case rel =>
        refine ⟨k + 1, by have := HG.out; omega, by go_num, fun c hc => ?_, B1.out, X1.out⟩
        by_cases e : c = k
        ·rw [e]; exact .inl HZ.out
        ·exact HSG.out c (by omega)
      ·by_cases hz2 : Pl.pv sg k = -1
       ·have HZ := hide hz2
        rw [hz2] at hc1
        clear hz hz2
        go_wp2
        go_roundg (gk - 1)
        case measure => have := HG.out; omega
        case rel =>
         refine ⟨k + 1, by have := HG.out; omega, by go_num, fun c hc => ?_, B1.out, X1.out⟩
         by_cases e : c = k
         ·rw [e]; exact .inr HZ.out
         ·exact HSG.out c (by omega)
       ·have HV := hide (fun h : Pl.VL sg mt lp => show False by
         rcases h.sign (c := k) (by have := HLS.out; omega) with e | e
         ·exact hz e
         ·exact hz2 e)
        have t1 : (Pl.pv sg k != 1) = true := by rw [bne_iff_ne]; exact hz
        have t2 : (Pl.pv sg k != -1) = true := by rw [bne_iff_ne]; exact hz2
        clear hz hz2
        go_wp2
        go_ret
        exact ⟨ret_bool (Pl.vb_false HV.out).symm, B1.out⟩
     ·have HSG' := hide (fun (c : Nat) (hc : c < sg.length) => HSG.out c (by have := HLS.out; omega))
      have B1 := hide b1
      have X1 := hide x1
      have x1c : wr.cell? ⟨w.heap.size, 1, none⟩ = some (.slice B q cq) := x1.cell (i := 1) (by show 1 < 3; omega)
      clear b1 x1 HSG HG
      go_wp2
      clear x1c
      go_loopg [48] q (fun g i wx => ∃ k : Nat, k + g = q ∧ i = .int .i64 k ∧ (∀ h, h < k → 0 ≤ Pl.pv mt h ∧ Pl.pv mt h < mt.length ∧ Pl.pv mt h ≠ h ∧ Pl.pv mt (Pl.pv mt h).toNat = h ∧ Pl.out (Pl.mk sg mt lp) h ≠ Pl.out (Pl.mk sg mt lp) (Pl.pv mt h).toNat) ∧ Below w.heap.size w wx ∧ Row wx w.heap.size 28 (boxV A B n cp q cq (.int .i64 lp)))
      case atStart => exact ⟨0, by omega, rfl, fun c hc => absurd hc (by omega), B1.out, X1.out⟩
      case round =>
       clear B1 X1
       obtain ⟨j, hjg, rfl, hmo, b2, x2⟩ := hrel
       have HG := hide hjg
       have HMO := hide hmo
       have hjq : j ≤ q := by omega
       clear hjg hmo
       by_cases hlt2 : j < q
       ·obtain ⟨bb, bo, rfl, hc⟩ := ints_pv hm hlt2
        have hc1 := cell_below hc b2
        have x2c : wr.cell? ⟨w.heap.size, 1, none⟩ = some (.slice (some ⟨bb, bo, none⟩) q cq) := x2.cell (i := 1) (by show 1 < 3; omega)
        have hjl : j < mt.length := by have := HLM.out; omega
        have B2 := hide b2
        have X2 := hide x2
        clear b2 x2 hc
        by_cases hz0 : Pl.pv mt j < 0
        ·have HV := hide (fun h : Pl.VL sg mt lp => show False by have := (h.mate hjl).1; omega)
         have t1 : decide (Pl.pv mt j < 0) = true := by simpa using hz0
         clear hz0
         go_wp2
         go_ret
         exact ⟨ret_bool (Pl.vb_false HV.out).symm, B2.out⟩
        ·have t1 : decide (Pl.pv mt j < 0) = false := by simpa using hz0
         by_cases hz1 : Pl.pv mt j < q
         ·obtain ⟨t, ht⟩ : ∃ t : Nat, Pl.pv mt j = t := ⟨(Pl.pv mt j).toNat, by omega⟩
          have htq : t < q := by omega
          have t2 : decide (4 * (n : Int) ≤ (t : Int)) = false := by have := HQ4.out; simp; omega
          rw [ht] at hc1 t1
          have HT := hide ht
          have hj4 : j < 4 * n := by have := HQ4.out; omega
          have ht4 : t < 4 * n := by have := HQ4.out; omega
          clear hz0 hz1 ht
          by_cases htj : t = j
          ·have HV := hide (fun h : Pl.VL sg mt lp => show False by have := (h.mate hjl).2.2.1; rw [HT.out] at this; omega)
           have t3 : (((t : Nat) : Int) == (j : Int)) = true := by simp; omega
           clear htj
           go_wp2
           go_ret
           exact ⟨ret_bool (Pl.vb_false HV.out).symm, B2.out⟩
          ·have t3 : (((t : Nat) : Int) == (j : Int)) = false := by simp; omega
           obtain ⟨bb', bo', ebb, hcb⟩ := ints_pv hm htq
           injection ebb with ebb
           injection ebb with ebb1 ebb2
           subst ebb1; subst ebb2
           have hc2 := cell_below hcb B2.out
           clear hcb
           by_cases hinv : Pl.pv mt t = j
           ·have HI := hide hinv
            rw [hinv] at hc2
            clear hinv
            have HSS := hide (fun (p : Cls (fun w' => Row w' w.heap.size 28 (boxV A (some ⟨bb, bo, none⟩) n cp q cq (.int .i64 lp)) ∧ Below w.heap.size w w')) (h : Nat) (hh : h < 4 * n) =>
             calls_cls (C := fun w' => Row w' w.heap.size 28 (boxV A (some ⟨bb, bo, none⟩) n cp q cq (.int .i64 lp)) ∧ Below w.heap.size w w')
              (out_n (Pl.mk sg mt lp) A (some ⟨bb, bo, none⟩) n cp q cq (.int .i64 lp) h p.w HLS.out.symm hh (by omega) (hs.keep p.ok.2)) (fun e w' h => ⟨h.1, p.ok.1.below h.2, p.ok.2.trans (h.2.mono p.ok.2.size)⟩))
            have c30 : ∀ p : Cls (fun w' => Row w' w.heap.size 28 (boxV A (some ⟨bb, bo, none⟩) n cp q cq (.int .i64 lp)) ∧ Below w.heap.size w w'), p.w.cell? ⟨w.heap.size, 0, none⟩ = some (.slice A n cp) := fun p => p.ok.1.cell (i := 0) (by show 0 < 3; omega)
            have c31 : ∀ p : Cls (fun w' => Row w' w.heap.size 28 (boxV A (some ⟨bb, bo, none⟩) n cp q cq (.int .i64 lp)) ∧ Below w.heap.size w w'), p.w.cell? ⟨w.heap.size, 1, none⟩ = some (.slice (some ⟨bb, bo, none⟩) q cq) := fun p => p.ok.1.cell (i := 1) (by show 1 < 3; omega)
            have c32 : ∀ p : Cls (fun w' => Row w' w.heap.size 28 (boxV A (some ⟨bb, bo, none⟩) n cp q cq (.int .i64 lp)) ∧ Below w.heap.size w w'), p.w.cell? ⟨w.heap.size, 2, none⟩ = some (.int .i64 lp) := fun p => p.ok.1.cell (i := 2) (by show 2 < 3; omega)
            go_wp2
            refine wp_region_cls (fun w' => Row w' w.heap.size 28 (boxV A (some ⟨bb, bo, none⟩) n cp q cq (.int .i64 lp)) ∧ Below w.heap.size w w') (by kernel_rfl) (by kernel_rfl) ⟨X2.out.drew, B2.out.drew⟩ (fun hne => ?_)
            repeat (quiet_step ((go_at_call 56; exact HSS.out _ _ (by omega))))
            refine wpQuiet_nil ?_
            rintro _ ⟨p, rfl⟩
            have hp1 := hide p.ok.1
            have hp2 := hide p.ok.2
            clear HSS c30 c31 c32
            go_wp2
            ·have t5 : (Pl.out (Pl.mk sg mt lp) j == Pl.out (Pl.mk sg mt lp) t) = true := by assumption
             go_ret
             refine ⟨ret_bool (Pl.vb_false fun h => ?_).symm, hp2.out⟩
             have h5 := (h.mate hjl).2.2.2.2
             rw [HT.out, Int.toNat_natCast] at h5
             exact h5 (beq_iff_eq.1 t5)
            ·have t5 : (Pl.out (Pl.mk sg mt lp) j == Pl.out (Pl.mk sg mt lp) t) = false := by assumption
             go_roundg (gk - 1)
             case measure => have := HG.out; omega
             case rel =>
              refine ⟨j + 1, by have := HG.out; omega, by go_num, fun h hh => ?_, hp2.out, hp1.out⟩
              by_cases e : h = j
              ·subst e
               rw [HT.out, Int.toNat_natCast]
               exact ⟨by omega, by have := HLM.out; omega, by omega, HI.out, beq_eq_false_iff_ne.1 t5⟩
              ·exact HMO.out h (by omega)
           ·have HV := hide (fun h : Pl.VL sg mt lp => show False by
             have := (h.mate hjl).2.2.2.1
             rw [HT.out, Int.toNat_natCast] at this
             exact hinv this)
            have t4 : (Pl.pv mt t != (j : Int)) = true := by rw [bne_iff_ne]; exact hinv
            clear hinv
            go_wp2
            go_ret
            exact ⟨ret_bool (Pl.vb_false HV.out).symm, B2.out⟩
         ·have HV := hide (fun h : Pl.VL sg mt lp => show False by have := (h.mate hjl).2.1; have := HLM.out; omega)
          have t2 : decide (4 * (n : Int) ≤ Pl.pv mt j) = true := by have := HQ4.out; simp; omega
          clear hz0 hz1
          go_wp2
          go_ret
          exact ⟨ret_bool (Pl.vb_false HV.out).symm, B2.out⟩
       ·have hjq' : j = q := by omega
        have hw := Pl.wf_of (sg := sg) (mt := mt) (lp := lp) (by have := HLS.out; omega) (by have := HLS.out; have := HLM.out; have := HQ4.out; omega) h3 HSG'.out (fun k hk => HMO.out k (by have := HLM.out; omega))
        have hpos : ∀ z, z ∈ mt → 0 ≤ z := fun z hz => by
         obtain ⟨k, hk, rfl⟩ := Pl.mem_pv hz
         exact (HMO.out k (by have := HLM.out; omega)).1
        have HW := hide hw
        have HR := hide (Pl.VL.of hw hpos h3.1)
        have HN := hide (Pl.nats_mk (sg := sg) (lp := lp) hpos)
        have B2 := hide b2
        have x20 : wr.cell? ⟨w.heap.size, 0, none⟩ = some (.slice A n cp) := x2.cell (i := 0) (by show 0 < 3; omega)
        have x21 : wr.cell? ⟨w.heap.size, 1, none⟩ = some (.slice B q cq) := x2.cell (i := 1) (by show 1 < 3; omega)
        have x22 : wr.cell? ⟨w.heap.size, 2, none⟩ = some (.int .i64 lp) := x2.cell (i := 2) (by show 2 < 3; omega)
        clear b2 x2 hw hpos hjq'
        go_wp2_with fail
        refine (spherical_n (Pl.mk sg mt lp) HW.out A B n q cp cq (.int .i64 lp) _ HLS.out.symm (by have := HQ4.out; have := HLS.out; rw [Pl.mk_n]; omega) ?_ ⟨?_, ?_⟩).mono ?_
        ·show Value.int .i64 lp = .int .i64 ((lp.toNat : Nat) : Int)
         rw [Int.toNat_of_nonneg h3.1]
        ·rw [Pl.mk_n, HLS.out]; exact hs.keep B2.out
        ·unfold nats
         rw [HN.out, Pl.mk_n, HLS.out, ← HQ4.out]; exact hm.keep B2.out
        rintro e w3 ⟨rfl, hb3⟩
        go_wp2
        go_ret
        exact ⟨ret_bool (congrArg Pl.vb (propext HR.out.symm)), B2.out.trans (hb3.mono B2.out.size)⟩
   ·have HV := hide (fun h : Pl.VL sg mt lp => show False by have := h.loops; omega)
    have h2' : (((q : Nat) : Int) != 4 * (n : Int)) = false := by simp; omega
    have HQ2 := hide h2
    clear h2
    go_enter Tryd.func30, Tryd.ntmps30
    go_wp2
    all_goals
     go_ret
     exact ⟨ret_bool (Pl.vb_false HV.out).symm, b0⟩
  ·have HV := hide (fun h : Pl.VL sg mt lp => show False by have := h.len; have := HLS.out; have := HLM.out; omega)
   have h2' : (((q : Nat) : Int) != 4 * (n : Int)) = true := by simp; omega
   go_enter Tryd.func30, Tryd.ntmps30
   go_wp2
   go_ret
   exact ⟨ret_bool (Pl.vb_false HV.out).symm, b0⟩
end Go.Proofs.YtcaoblilkgajoaaDoor
end
section
namespace Go.Proofs.YtcaoblilkgajoaaDoor.Pl
def left (n : Nat) (gs : List Nat) : List Nat := (List.range n).filter (fun c => !gs.contains c)
end Go.Proofs.YtcaoblilkgajoaaDoor.Pl
end
section
namespace Go.Proofs.YtcaoblilkgajoaaDoor
open Go.RowKit
theorem below_drewN {B : Nat} {a w : World} (h : Below B a w) (n : Nat) : Below B a (w.drewN n) := ⟨h.os, h.tape, h.output, h.size, h.block⟩
def kk (d : Pl.Dg) (c : Nat) : Nat := if d.m (4 * c + 2) / 4 = c then 4 * c + 2 else if d.s c = 1 then 4 * c + 1 else 4 * c + 3
end Go.Proofs.YtcaoblilkgajoaaDoor
end
section
namespace Go.Proofs.YtcaoblilkgajoaaDoor
open Go.RowKit
theorem nats_at {w : World} {A : Option Addr} {n k : Nat} {gs : List Nat} (h : IntsAt w A n (nats gs)) (hk : k < n) :
 ∃ b o, A = some ⟨b, o, none⟩ ∧ w.cell? ⟨b, o + k, none⟩ = some (.int .i64 (gs.getD k 0 : Nat)) := by
 obtain ⟨b, o, e, hc⟩ := h.at_ hk
 refine ⟨b, o, e, hc.trans ?_⟩
 have hl := h.len
 unfold nats at hl ⊢
 rw [List.length_map] at hl
 rw [List.getD_eq_getElem?_getD, List.getD_eq_getElem?_getD, List.getElem?_map, List.getElem?_eq_getElem (by omega)]; rfl
end Go.Proofs.YtcaoblilkgajoaaDoor
end
section
namespace Go.Proofs.YtcaoblilkgajoaaDoor
open Go Go.RowKit
theorem one_news (W : World) (x : Value) : ∀ j u, [x][j]? = some u → (W.alloc (.cells #[x] 3)).cell? ((⟨W.heap.size, 0, none⟩ : Addr).add j) = some u := by
 intro j u hu
 match j, hu with
 | 0, hu => simp at hu; subst hu; exact (Lib.cell_of_heap (heap_alloc_new W _) 0).trans rfl
end Go.Proofs.YtcaoblilkgajoaaDoor
end
section
namespace Go.Proofs.YtcaoblilkgajoaaDoor
open Go Go.RowKit
section
variable {w : World} {gi : Nat} {x0 x1 x2 y0 y1 y2 y3 y4 : Value} {W W' : World}
end
theorem own_ints' {w : World} {base : Nat} {e : TypeId} {A : Option Addr} {n c : Nat} {zs : List Int} (h : w.ownsRow base e 1 (.slice A n c) n (zs.map (.int .i64))) : IntsAt w A n zs := by
 have hl := h.1
 rcases h.2 with ⟨h1, h2⟩ | ⟨g, cap, cur, h1, _⟩
 ·subst h2
  exact ⟨by simpa using hl, fun h => absurd h (by omega)⟩
 ·injection h1 with h1 _ h3
  subst h1
  exact own_ints h
theorem map_nats (l : List Nat) : (nats l).map (Value.int .i64) = l.map (fun k : Nat => Value.int .i64 k) := by unfold nats; rw [List.map_map]; rfl
theorem row_at {W : World} {t : TypeId} {vs : List Value} {g : Nat} (h : g = W.heap.size) : Row (W.alloc (.cells vs.toArray t)) g t vs := by subst h; exact Row.new W t vs
end Go.Proofs.YtcaoblilkgajoaaDoor
end
section
namespace Go.Proofs.YtcaoblilkgajoaaDoor.Pl
variable {N : Nat} {S : Nat → Prop} {f : Nat → Nat}
def Per (f : Nat → Nat) (x p : Nat) : Prop := 0 < p ∧ it f p x = x ∧ ∀ i, 0 < i → i < p → it f i x ≠ x
theorem least_nat {P : Nat → Prop} : ∀ (n : Nat), P n → ∃ m, m ≤ n ∧ P m ∧ ∀ k, k < m → ¬ P k
 | 0, h => ⟨0, Nat.le_refl _, h, fun k hk => absurd hk (by omega)⟩
 | n + 1, h => by
   by_cases e : ∃ k, k < n + 1 ∧ P k
   ·obtain ⟨k, hk, hp⟩ := e
    obtain ⟨m, h1, h2, h3⟩ := least_nat k hp
    exact ⟨m, by omega, h2, h3⟩
   ·exact ⟨n + 1, Nat.le_refl _, h, fun k hk hp => e ⟨k, hk, hp⟩⟩
termination_by n => n
theorem Bij.per (h : Bij N S f) {x : Nat} (hx : S x) : ∃ p, p ≤ N ∧ Per f x p := by
 obtain ⟨q, h1, h2, h3⟩ := h.back hx
 obtain ⟨m, g1, ⟨g2, g3⟩, g4⟩ := least_nat (P := fun p => 0 < p ∧ Pl.it f p x = x) q ⟨h1, h3⟩
 exact ⟨m, by omega, g2, g3, fun i hi hm e => g4 i hm ⟨hi, e⟩⟩
def cyc (f : Nat → Nat) (x p : Nat) : List Nat := (List.range p).map (fun i => it f i x)
theorem cyc_len (f : Nat → Nat) (x p : Nat) : (cyc f x p).length = p := by unfold cyc; simp
theorem cyc_succ (f : Nat → Nat) (x p : Nat) : cyc f x (p + 1) = cyc f x p ++ [it f p x] := by unfold cyc; rw [List.range_succ, List.map_append]; rfl
theorem cyc_get {f : Nat → Nat} {x p i : Nat} (hi : i < p) : (cyc f x p).getD i 0 = it f i x := by
 unfold cyc
 rw [List.getD_eq_getElem?_getD, List.getElem?_map, List.getElem?_range hi]; rfl
theorem mem_cyc {x p : Nat} (hp : Per f x p) {y : Nat} : y ∈ cyc f x p ↔ Orb f x y := by
 unfold cyc
 rw [List.mem_map]
 constructor
 ·rintro ⟨i, _, e⟩; exact ⟨i, e⟩
 ·rintro ⟨k, e⟩
  refine ⟨k % p, List.mem_range.2 (Nat.mod_lt _ hp.1), ?_⟩
  have h1 : k = k % p + k / p * p := by rw [Nat.mul_comm]; exact (Nat.mod_add_div k p).symm
  rw [h1, it_add, it_mul f p x hp.2.1] at e
  exact e
structure Fcs (f : Nat → Nat) (W : Nat → Prop) (N k : Nat) (fs : List (List Nat)) (bs : List Bool) : Prop where
 len : bs.length = N
 is : ∀ l, l ∈ fs → ∃ h p, h < N ∧ W h ∧ Per f h p ∧ l = cyc f h p
 seen : ∀ h, h < N → (gb bs h = true ↔ ∃ l, l ∈ fs ∧ h ∈ l)
 all : ∀ h, h < k → W h → gb bs h = true
 one : ∀ (i j : Nat) (l m : List Nat) (h : Nat), fs[i]? = some l → fs[j]? = some m → h ∈ l → h ∈ m → i = j
theorem Fcs.start (f : Nat → Nat) (W : Nat → Prop) (N : Nat) : Fcs f W N 0 [] (List.replicate N false) := by
 refine ⟨by simp, fun l h => by simp at h, fun h hh => ?_, fun h hh => absurd hh (by omega), fun i j l m h e => by simp at e⟩
 constructor
 ·intro e; unfold gb at e; rw [List.getD_eq_getElem?_getD, List.getElem?_replicate, if_pos hh] at e; exact absurd e (by decide)
 ·rintro ⟨l, h, _⟩; simp at h
theorem Fcs.skip {W : Nat → Prop} {k : Nat} {fs : List (List Nat)} {bs : List Bool} (h : Fcs f W N k fs bs) (hs : gb bs k = true ∨ ¬ W k) : Fcs f W N (k + 1) fs bs :=
 ⟨h.len, h.is, h.seen, fun x hx hw => by
   by_cases e : x = k
   ·subst e
    rcases hs with hs | hs
    ·exact hs
    ·exact absurd hw hs
   ·exact h.all x (by omega) hw, h.one⟩
def mark (bs : List Bool) : List Nat → List Bool
 | [] => bs
 | x :: l => mark (bs.set x true) l
theorem mark_append (bs : List Bool) : ∀ (l m : List Nat), mark bs (l ++ m) = mark (mark bs l) m := by
 intro l
 induction l generalizing bs with
 | nil => intro m; rfl
 | cons x l ih => intro m; exact ih (bs.set x true) m
theorem mark_len (bs : List Bool) (l : List Nat) : (mark bs l).length = bs.length := by
 induction l generalizing bs with
 | nil => rfl
 | cons x l ih => show (mark (bs.set x true) l).length = _; rw [ih, List.length_set]
theorem gb_mark {bs : List Bool} {l : List Nat} (hl : ∀ x, x ∈ l → x < bs.length) (h : Nat) : gb (mark bs l) h = true ↔ gb bs h = true ∨ h ∈ l := by
 induction l generalizing bs with
 | nil => simp [mark]
 | cons x l ih =>
   show gb (mark (bs.set x true) l) h = true ↔ _
   rw [ih (fun y hy => by rw [List.length_set]; exact hl y (List.mem_cons_of_mem _ hy)), gb_set (hl x List.mem_cons_self) true h, List.mem_cons]
   by_cases e : h = x
   ·simp [e]
   ·simp [e]
theorem Fcs.add {W : Nat → Prop} (hb : Bij N S f) (hS : ∀ x, x < N → S x) (hN : ∀ x, S x → x < N) {k p : Nat} {fs : List (List Nat)} {bs : List Bool} (h : Fcs f W N k fs bs) (hk : k < N) (hw : W k) (hn : gb bs k = false) (hp : Per f k p) :
 Fcs f W N (k + 1) (fs ++ [cyc f k p]) (mark bs (cyc f k p)) := by
 have hin : ∀ x, x ∈ cyc f k p → x < bs.length := fun x hx => by
  rw [h.len]; exact hN x (hb.orb_mem (hS k hk) ((mem_cyc hp).1 hx))
 have apart : ∀ l x, l ∈ fs → x ∈ l → ¬ x ∈ cyc f k p := fun l x hl hx hc => by
  obtain ⟨g, q, h1, h2, h3, rfl⟩ := h.is l hl
  have e1 := (mem_cyc h3).1 hx
  have e2 := (mem_cyc hp).1 hc
  have e3 : Orb f g k := e1.trans (hb.symm (hS k hk) e2)
  have := (h.seen k hk).2 ⟨_, hl, (mem_cyc h3).2 e3⟩
  rw [hn] at this
  exact absurd this (by decide)
 refine ⟨by rw [mark_len, h.len], fun l hl => ?_, fun x hx => ?_, fun x hx hwx => ?_, fun i j l m x e1 e2 h1 h2 => ?_⟩
 ·rcases List.mem_append.1 hl with hl | hl
  ·exact h.is l hl
  ·rw [List.mem_singleton] at hl
   exact ⟨k, p, hk, hw, hp, hl⟩
 ·rw [gb_mark hin, h.seen x hx]
  constructor
  ·rintro (⟨l, h1, h2⟩ | h2)
   ·exact ⟨l, List.mem_append_left _ h1, h2⟩
   ·exact ⟨_, List.mem_append_right _ (List.mem_singleton.2 rfl), h2⟩
  ·rintro ⟨l, h1, h2⟩
   rcases List.mem_append.1 h1 with h1 | h1
   ·exact .inl ⟨l, h1, h2⟩
   ·rw [List.mem_singleton] at h1; subst h1; exact .inr h2
 ·rw [gb_mark hin]
  by_cases e : x = k
  ·subst e; exact .inr ((mem_cyc hp).2 (Orb.refl f x))
  ·exact .inl (h.all x (by omega) hwx)
 ·rw [List.getElem?_append] at e1 e2
  by_cases c1 : i < fs.length
  ·rw [if_pos c1] at e1
   by_cases c2 : j < fs.length
   ·rw [if_pos c2] at e2
    exact h.one i j l m x e1 e2 h1 h2
   ·rw [if_neg c2] at e2
    have := List.mem_of_getElem? e2
    rw [List.mem_singleton] at this
    subst this
    exact absurd h2 (apart l x (List.mem_of_getElem? e1) h1)
  ·rw [if_neg c1] at e1
   have t1 := List.mem_of_getElem? e1
   rw [List.mem_singleton] at t1
   by_cases c2 : j < fs.length
   ·rw [if_pos c2] at e2
    subst t1
    exact absurd h1 (apart m x (List.mem_of_getElem? e2) h2)
   ·rw [if_neg c2] at e2
    have a1 := (List.getElem?_eq_some_iff.1 e1).1
    have a2 := (List.getElem?_eq_some_iff.1 e2).1
    simp only [List.length_singleton] at a1 a2
    omega
theorem Fcs.label {W : Nat → Prop} (hb : Bij N S f) (hS : ∀ x, x < N → S x) {fs : List (List Nat)} {bs : List Bool} (h : Fcs f W N N fs bs) (hW : ∀ x, x < N → W x) {F : Nat → Nat} (hF : ∀ (i : Nat) (l : List Nat) (x : Nat), fs[i]? = some l → x ∈ l → F x = i) {x y : Nat} (hx : x < N) (hy : y < N) : F x = F y ↔ Orb f x y := by
 obtain ⟨l, h1, h2⟩ := (h.seen x hx).1 (h.all x hx (hW x hx))
 obtain ⟨m, g1, g2⟩ := (h.seen y hy).1 (h.all y hy (hW y hy))
 obtain ⟨i, hi⟩ := List.getElem?_of_mem h1
 obtain ⟨j, hj⟩ := List.getElem?_of_mem g1
 rw [hF i l x hi h2, hF j m y hj g2]
 obtain ⟨a, p, a1, a2, a3, rfl⟩ := h.is l h1
 have ox := (mem_cyc a3).1 h2
 constructor
 ·intro e
  subst e
  rw [hi] at hj
  injection hj with hj
  subst hj
  have oy := (mem_cyc a3).1 g2
  exact (hb.symm (hS a a1) ox).trans oy
 ·intro e
  exact h.one i j _ m y hi hj ((mem_cyc a3).2 (ox.trans e)) g2
end Go.Proofs.YtcaoblilkgajoaaDoor.Pl
end
section
namespace Go.Proofs.YtcaoblilkgajoaaDoor
open Go Go.RowKit
def fv1 (k : Nat) (c : Value) : Value := .func (.func k) #[] #[c]
def Steps (k : Nat) (c : Value) (N : Nat) (f : Nat → Nat) (w : World) : Prop := ∀ w' h, Below w.heap.size w w' → h < N → Calls Tryd.prog k #[.int .i64 (h : Int), c] w' fun e w'' => e = .returned (.int .i64 (f h : Nat)) ∧ Below w'.heap.size w' w''
theorem Steps.keep {k : Nat} {c : Value} {N : Nat} {f : Nat → Nat} {w W : World} (h : Steps k c N f w) (hb : Below w.heap.size w W) : Steps k c N f W :=
 fun w' x hb' hx => h w' x (hb.trans (hb'.mono hb.size)) hx
theorem own_one (W : World) (x : Value) : (W.alloc (.cells #[x] 3)).ownsRow W.heap.size 3 1 (.slice (some ⟨W.heap.size, 0, none⟩) 1 1) 1 [x] :=
 ⟨rfl, .inr ⟨W.heap.size, 1, #[x], rfl, Nat.le_refl _, heap_alloc_new W _, Nat.le_refl _, by unfold maxLen; omega, rfl, rfl⟩⟩
theorem it_lt {f : Nat → Nat} {N : Nat} (hf : ∀ x, x < N → f x < N) {h : Nat} (hh : h < N) : ∀ k, Pl.it f k h < N
 | 0 => hh
 | k + 1 => hf _ (it_lt hf hh k)
def CycPost (f : Nat → Nat) (h p : Nat) (w : World) (e : Ending) (w' : World) : Prop :=
 ∃ (A : Option Addr) (c : Nat), e = .returned (.slice A p c) ∧ w'.ownsRow w.heap.size 3 1 (.slice A p c) p ((Pl.cyc f h p).map (fun k : Nat => Value.int .i64 k)) ∧ Below w.heap.size w w'
end Go.Proofs.YtcaoblilkgajoaaDoor
end
section
namespace Go.Proofs.YtcaoblilkgajoaaDoor.Pl
variable {d : Dg}
structure PI (d : Dg) (ps : List Int) : Prop where
 len : ps.length = d.n
 is : ∀ c, c < d.n → ∃ b : Nat, pv ps c = b ∧ b ≤ c ∧ Comp d c b
structure PB (d : Dg) (ps : List Int) : Prop where
 len : ps.length = d.n
 is : ∀ c, c < d.n → ∃ b : Nat, pv ps c = b ∧ b ≤ c ∧ Comp d c b
 same : ∀ a b, a < d.n → Comp d a b → pv ps a = pv ps b
end Go.Proofs.YtcaoblilkgajoaaDoor.Pl
end
section
namespace Go.Proofs.YtcaoblilkgajoaaDoor
open Go Go.RowKit
def lnH (x y i : Nat) : Nat := if i < 4 then 4 * x + i else 4 * y + i - 4
def lnO (x y i : Nat) : Nat := if i < 4 then y else x
def isL (d : Pl.Dg) (x y i : Nat) : Prop := Pl.nx d (lnH x y i) / 4 = lnO x y i ∧ Pl.nx d (Pl.nx d (lnH x y i)) = lnH x y i ∧ lnH x y i % 2 = d.m (lnH x y i) % 2
instance (d : Pl.Dg) (x y i : Nat) : Decidable (isL d x y i) := by unfold isL; infer_instance
end Go.Proofs.YtcaoblilkgajoaaDoor
end
section
namespace Go.Proofs.YtcaoblilkgajoaaDoor
open Go Go.RowKit
attribute [local go_sem ↓] Go.wp_at_zero Go.wp_at_succ
def eo (d : Pl.Dg) (o : Nat) : Nat := if Pl.out d o = true then o else d.m o
def ei (d : Pl.Dg) (o : Nat) : Nat := d.m (eo d o)
def th (d : Pl.Dg) (h k : Nat) : Nat := if k = 0 then h else if k = 1 then Pl.nx d h else Pl.nx d (Pl.nx d h)
section
variable {w W W' : World} {dv ev : List Value}
end
end Go.Proofs.YtcaoblilkgajoaaDoor
end
section
namespace Go.Proofs.YtcaoblilkgajoaaDoor
open Go Go.RowKit
theorem RowT.store {w : World} {t t' : TypeId} {A : Option Addr} {n : Nat} {xs : List Value} {g i : Nat} {vs : List Value} (h : RowT w t A n xs) (hr : Row w g t' vs) (hne : t ≠ t') (v : Value) : RowT (w.setCell ⟨g, i, none⟩ v) t A n xs :=
 ⟨h.1, fun hn => let ⟨b, o, cs, fr, e, hb, hc⟩ := h.2 hn; ⟨b, o, cs, fr, e, (Below.heap_setCell w _ v b (fun he => by
   have hr' := hr
   unfold Row at hr'
   have he' : b = g := he
   rw [he', hr'] at hb
   injection hb with hb
   injection hb with _ h4
   exact hne h4.symm)).trans hb, hc⟩⟩
theorem own_rowT {w : World} {base : Nat} {t : TypeId} {A : Option Addr} {n c : Nat} {xs : List Value} (h : w.ownsRow base t 1 (.slice A n c) n xs) : RowT w t A n xs := by
 refine ⟨by simpa using h.1, fun hn => ?_⟩
 rcases h.2 with ⟨_, h2⟩ | ⟨g, cap, cur, h1, _, h3, _, _, _, h5⟩
 ·omega
 ·injection h1 with h1 _ _
  refine ⟨g, 0, cur, (0, 0), h1, h3, fun j u hu => ?_⟩
  rw [Nat.zero_add]
  have hj : j < n := by
   have := (List.getElem?_eq_some_iff.1 hu).1
   have := h.1
   omega
  rw [← h5, List.getElem?_take, if_pos (by omega)] at hu
  rw [← hu]
  simp
def FaceAt (w : World) (v : Value) (l : List Nat) : Prop := ∃ A c, v = .slice A l.length c ∧ RowT w 3 A l.length (l.map (fun k : Nat => Value.int .i64 k))
def Vs (w : World) (vs : List Value) (fs : List (List Nat)) : Prop := vs.length = fs.length ∧ ∀ (i : Nat) l, fs[i]? = some l → ∃ v, vs[i]? = some v ∧ FaceAt w v l
theorem Vs.below {w w' : World} {vs : List Value} {fs : List (List Nat)} (h : Vs w vs fs) (hb : Below w.heap.size w w') : Vs w' vs fs :=
 ⟨h.1, fun i l e => let ⟨v, h1, A, c, h2, h3⟩ := h.2 i l e; ⟨v, h1, A, c, h2, h3.keep hb⟩⟩
theorem Vs.grown {w w' : World} {vs : List Value} {fs : List (List Nat)} {row : Option Nat} {t' : TypeId} (h : Vs w vs fs) (hg : w.grownBy w' row) (hr : ∀ g, row = some g → ∃ cs fr, w.heap[g]? = some (.cells cs t' fr)) (hne : 3 ≠ t') : Vs w' vs fs :=
 ⟨h.1, fun i l e => let ⟨v, h1, A, c, h2, h3⟩ := h.2 i l e; ⟨v, h1, A, c, h2, h3.grown hg hr hne⟩⟩
theorem Vs.store {w : World} {vs : List Value} {fs : List (List Nat)} {g i : Nat} {us : List Value} {t' : TypeId} (h : Vs w vs fs) (hr : Row w g t' us) (hne : 3 ≠ t') (v : Value) : Vs (w.setCell ⟨g, i, none⟩ v) vs fs :=
 ⟨h.1, fun i l e => let ⟨v, h1, A, c, h2, h3⟩ := h.2 i l e; ⟨v, h1, A, c, h2, h3.store hr hne _⟩⟩
theorem Vs.add {w : World} {vs : List Value} {fs : List (List Nat)} {v : Value} {l : List Nat} (h : Vs w vs fs) (hv : FaceAt w v l) : Vs w (vs ++ [v]) (fs ++ [l]) := by
 refine ⟨by simp [h.1], fun i m e => ?_⟩
 rw [List.getElem?_append] at e ⊢
 by_cases hi : i < fs.length
 ·rw [if_pos hi] at e
  rw [if_pos (by rw [h.1]; exact hi)]
  exact h.2 i m e
 ·rw [if_neg hi] at e
  rw [if_neg (by rw [h.1]; exact hi), h.1]
  have h1 := (List.getElem?_eq_some_iff.1 e).1
  simp only [List.length_singleton] at h1
  have h0 : i - fs.length = 0 := by omega
  rw [h0] at e ⊢
  simp only [List.getElem?_cons_zero, Option.some.injEq] at e
  subst e
  exact ⟨v, rfl, hv⟩
theorem Vs.nil (w : World) : Vs w [] [] := ⟨rfl, fun i l e => by simp at e⟩
theorem FaceAt.below {w w' : World} {v : Value} {l : List Nat} (h : FaceAt w v l) (hb : Below w.heap.size w w') : FaceAt w' v l := let ⟨A, c, h2, h3⟩ := h; ⟨A, c, h2, h3.keep hb⟩
theorem FaceAt.store {w : World} {v : Value} {l : List Nat} {g i : Nat} {us : List Value} {t' : TypeId} (h : FaceAt w v l) (hr : Row w g t' us) (hne : 3 ≠ t') (u : Value) : FaceAt (w.setCell ⟨g, i, none⟩ u) v l := let ⟨A, c, h2, h3⟩ := h; ⟨A, c, h2, h3.store hr hne _⟩
theorem FaceAt.grown {w w' : World} {v : Value} {l : List Nat} {row : Option Nat} {t' : TypeId} (h : FaceAt w v l) (hg : w.grownBy w' row) (hr : ∀ g, row = some g → ∃ cs fr, w.heap[g]? = some (.cells cs t' fr)) (hne : 3 ≠ t') : FaceAt w' v l := let ⟨A, c, h2, h3⟩ := h; ⟨A, c, h2, h3.grown hg hr hne⟩
theorem FaceAt.ints {w : World} {A : Option Addr} {n c : Nat} {l : List Nat} (h : FaceAt w (.slice A n c) l) : n = l.length ∧ IntsAt w A n (nats l) := by
 obtain ⟨A', c', h1, h2⟩ := h
 injection h1 with h1 h3 h4
 subst h1 h3
 refine ⟨rfl, ?_⟩
 unfold IntsAt
 rw [map_nats]
 exact h2.row
def Far (base : Nat) (vs : List Value) : Prop := ∀ v, v ∈ vs → ∀ g, v.ownBlock = some g → base ≤ g
theorem Far.add {base : Nat} {vs : List Value} {v : Value} (h : Far base vs) (hv : ∀ g, v.ownBlock = some g → base ≤ g) : Far base (vs ++ [v]) := fun u hu => by
 rcases List.mem_append.1 hu with hu | hu
 ·exact h u hu
 ·rw [List.mem_singleton] at hu; subst hu; exact hv
theorem rowInfo : (Tryd.prog.info? 22).map (fun i => (i.zero, i.size, i.bytes)) = some (some (.slice none 0 0), 1, 24) := by kernel_rfl
end Go.Proofs.YtcaoblilkgajoaaDoor
end
section
namespace Go.Proofs.YtcaoblilkgajoaaDoor
open Go Go.RowKit
theorem mk_self (d : Pl.Dg) : Pl.mk d.sg (nats d.mt) d.lp = d := by
 unfold Pl.mk nats
 rw [List.map_map]
 have : (Int.toNat ∘ fun m : Nat => (m : Int)) = id := by funext x; rfl
 rw [this, List.map_id]
 rfl
theorem vl_of {d : Pl.Dg} : Pl.VL d.sg (nats d.mt) d.lp ↔ Pl.Valid d := by
 constructor
 ·intro h; have := h.1; rwa [mk_self] at this
 ·intro h; exact ⟨by rw [mk_self]; exact h, fun z hz => by unfold nats at hz; obtain ⟨m, _, rfl⟩ := List.mem_map.1 hz; omega, by omega⟩
theorem valid_yes (d : Pl.Dg) (hd : Pl.Valid d) (A B : Option Addr) (cp cq m : Nat) (w : World) (hm : m = 4 * d.n) (hg : DgAt w A B d) :
 Calls Tryd.prog 30 #[.agg #[.slice A d.n cp, .slice B m cq, .int .i64 d.lp]] w fun e w' => e = .returned (.bool true) ∧ Below w.heap.size w w' := by
 have hn := hd.wf.few
 have hl := hd.wf.lp
 refine (valid_any d.sg (nats d.mt) d.lp A B d.n m cp cq w hg.s (by rw [hm]; exact hg.m) (by unfold maxLen; omega) (by unfold maxLen; omega) (by omega)).mono ?_
 rintro e w' ⟨h1, h2⟩
 rw [Pl.vb_true (vl_of.2 hd)] at h1
 exact ⟨h1, h2⟩
end Go.Proofs.YtcaoblilkgajoaaDoor
end
section
namespace Go.Proofs.YtcaoblilkgajoaaDoor
open Go Go.RowKit
def fwd (d : Pl.Dg) (x : Int) : Bool := if x = -1 then true else if 0 ≤ x then Pl.out d x.toNat else false
end Go.Proofs.YtcaoblilkgajoaaDoor
end
section
namespace Go.Proofs.YtcaoblilkgajoaaDoor
open Go Go.RowKit
attribute [local go_sem ↓] Go.wp_at_zero Go.wp_at_succ
section
variable {w : World} {x0 x1 x2 y0 y1 y2 y3 y4 : Value} {W W' : World}
end
section
variable {w : World} {x0 x1 x2 y0 y1 y2 y3 y4 : Value} {gu gs : Nat} {p0 p1 q0 q1 : Value} {W W' : World}
end
theorem own_base {w : World} {base base' : Nat} {e : TypeId} {v : Value} {n : Nat} {xs : List Value} (h : w.ownsRow base e 1 v n xs) (hle : base' ≤ base) : w.ownsRow base' e 1 v n xs := own_keep h (Below.refl _ _) hle
end Go.Proofs.YtcaoblilkgajoaaDoor
end
section
namespace Go.Proofs.YtcaoblilkgajoaaDoor
open Go Go.RowKit
def DC (w : World) (dv : List Value) (w' : World) : Prop := Row w' w.heap.size 28 dv ∧ Below w.heap.size w w'
theorem DC.below {w : World} {dv : List Value} {W W' : World} (h : DC w dv W) (hb : Below W.heap.size W W') : DC w dv W' := ⟨h.1.below hb, h.2.trans (hb.mono h.2.size)⟩
theorem DC.drew {w : World} {dv : List Value} {W : World} (h : DC w dv W) : DC w dv W.drew := ⟨h.1, h.2.drew⟩
theorem DC.all {w : World} {a b c : Value} {W : World} (h : DC w [a, b, c] W) : W.cell? ⟨w.heap.size, 0, none⟩ = some a ∧ W.cell? ⟨w.heap.size, 1, none⟩ = some b ∧ W.cell? ⟨w.heap.size, 2, none⟩ = some c ∧ DC w [a, b, c] W :=
 ⟨h.1.cell (i := 0) (by simp), h.1.cell (i := 1) (by simp), h.1.cell (i := 2) (by simp), h⟩
theorem DC.start (w : World) (a b c : Value) : DC w [a, b, c] (w.alloc (.cells #[a, b, c] 28)) :=
 ⟨row_at (vs := [a, b, c]) rfl, (Below.refl _ _).alloc (Nat.le_refl _) _⟩
end Go.Proofs.YtcaoblilkgajoaaDoor
end
