/-
 The texts Wc, Mk, Reg, Val, Shr, Wj, Wk, Wl, Wm, Wr, Prt, Xa, Xe, Ws, Wu, Wx, Wz, Wv, Ww, Rl, Xj, Sld, Slr, Knk, Kval in one.
-/
import Derived.Test.YtcaoblilkgajoaaDoorF02
import Derived.Test.YtcaoblilkgajoaaDoorF00
import Derived.Deep.QuietTactic
import Derived.BigQuiet
import Derived.Test.YtcaoblilkgajoaaDoorShelf
import Derived.Deep.AppendLies
import Derived.Maps.AppendAt
import Derived.Deep.RegionLaw
import Derived.StillTailTactics
import Derived.Deep.RegionHeld3
import Derived.Deep.DrawnRows
import Derived.Outline
import Derived.Deep.DeepCutAuto
import Derived.Deep.CutBlock
import Derived.Laws.MakeOwn
import Derived.RegionTactic
import Derived.Deep.RegionWith
import Derived.Test.YtcaoblilkgajoaaDoorF01
set_option linter.unusedVariables false
set_option linter.unusedSimpArgs false
section
namespace Go.Proofs.YtcaoblilkgajoaaDoor
open Go.RowKit
set_option maxRecDepth 100000 in
set_option maxHeartbeats 4000000 in
theorem spherical_any (d : Pl.Dg) (hd : Pl.Wf d) (A B : Option Addr) (cp cq : Nat) (l : Value) (w : World) (hl : l = .int .i64 d.lp) (hg : DgAt w A B d) :
 Calls Tryd.prog 57 #[.agg #[.slice A d.n cp, .slice B (4 * d.n) cq, l]] w fun e w' => e = .returned (.bool (Pl.vb (Pl.Rule d))) ∧ Below w.heap.size w w' := by
 subst hl
 have hn := hd.few
 have HF := hide hd
 clear hd
 obtain ⟨m, hm⟩ : ∃ m, m = 4 * d.n := ⟨_, rfl⟩
 rw [← hm]
 have HM := hide hm
 have hm6 : m ≤ 256 := by omega
 clear hm
 go_enter Tryd.func57, Tryd.ntmps57
 go_wp2_with fail
 have b0 : Below w.heap.size w (w.alloc (.cells #[.slice A d.n cp, .slice B m cq, .int .i64 d.lp] 28)) := (Below.refl _ _).alloc (Nat.le_refl _) _
 have x0 : Row (w.alloc (.cells #[.slice A d.n cp, .slice B m cq, .int .i64 d.lp] 28)) w.heap.size 28 (boxV A B d.n cp m cq (.int .i64 d.lp)) := Row.new w _ _
 refine (label_m d HF.out A B cp cq m _ _ HM.out (hg.keep b0)).mono ?_
 rintro e w1 ⟨ps, P, g, rfl, hlb, hall, hgb, hrow, hb1⟩
 have X1 := hide (x0.below hb1)
 have B1 := hide (b0.trans (hb1.mono (by simp)))
 have hPn := hlb.le
 have HLB := hide hlb
 have HALL := hide hall
 have HLen := hide hlb.len
 have R1 := hide hrow
 have hg0 : w.heap.size + 1 ≤ g := by simpa using hgb
 have hg1 : g < w1.heap.size := hrow.lt
 clear b0 x0 hb1 hlb hall hrow hgb
 have hmk := run_ints P (by omega) w1
 go_wp2
 clear hmk
 obtain ⟨W2, hW2⟩ : ∃ W2 : World, W2 = w1.alloc (.cells (Array.replicate P (Value.int .i64 0)) 3) := ⟨_, rfl⟩
 have B2 := hide (show Below w.heap.size w W2 by rw [hW2]; exact B1.out.alloc (by omega) _)
 have X2 := hide (show Row W2 w.heap.size 28 (boxV A B d.n cp m cq (.int .i64 d.lp)) by rw [hW2]; exact X1.out.alloc _)
 have R2 := hide (show IRow W2 g ps by rw [hW2]; exact Row.alloc R1.out _)
 have E2 := hide (show IRow W2 w1.heap.size (List.replicate P 0) by rw [hW2]; exact IRow.made w1 P)
 rw [← hW2]
 clear hW2 B1 X1 R1
 generalize w1.heap.size = eb at hg1 E2 ⊢
 go_loopg [22] d.n (fun g' i wx => ∃ (k : Nat) (es : List Int), k + g' = d.n ∧ i = .int .i64 k ∧ Pl.Ex d ps es P k 0 ∧ Below w.heap.size w wx ∧ Row wx w.heap.size 28 (boxV A B d.n cp m cq (.int .i64 d.lp)) ∧ IRow wx g ps ∧ IRow wx eb es)
 case atStart => exact ⟨0, _, by omega, rfl, Pl.Ex.start d ps P, B2.out, X2.out, R2.out, E2.out⟩
 case round =>
  clear B2 X2 R2 E2
  obtain ⟨k, es, hkg, rfl, hex, b3, x3, r3, e3⟩ := hrel
  have HG := hide hkg
  have HE := hide hex
  have hks : k ≤ d.n := by omega
  have hel := hex.1
  have HEL := hide hel
  clear hkg hex
  by_cases hlt : k < d.n
  ·obtain ⟨q, hq⟩ : ∃ q : Nat, Pl.pv ps k = q := ⟨(Pl.pv ps k).toNat, by have := HALL.out k hlt; omega⟩
   have hqP : q < P := by have := (HLB.out.lo k hlt).2; omega
   have c1 := r3.cell (i := k) (by have := HLen.out; omega)
   rw [hq] at c1
   have c2 := e3.cell (i := q) (by omega)
   have f2 := Row.free e3 q
   have hlo : -1000 ≤ Pl.pv es q ∧ Pl.pv es q ≤ 1000 := by
    have h1 := HE.out.2 q hqP
    have h2 : Pl.nf d ps q 0 = 0 := rfl
    have h3 : Pl.nv ps q k ≤ k := Pl.cnt_top _ k
    omega
   have HQ := hide hq
   have B3 := hide b3
   have X3 := hide x3
   have R3 := hide r3
   have E3 := hide e3
   clear hq b3 x3 r3 e3 hel
   go_wp2
   go_roundg (gk - 1)
   case measure => have := HG.out; omega
   case rel =>
    refine ⟨k + 1, _, by have := HG.out; omega, by go_num, HE.out.less hqP HQ.out, B3.out.setCell (by simp; omega) _, X3.out.other (by simp; omega) _, Row.other R3.out (by simp; omega) _, E3.out.set q (Pl.pv es q - 1)⟩
  ·have hkn : k = d.n := by omega
   have HE' := hide (show Pl.Ex d ps es P d.n 0 by have := HE.out; rw [hkn] at this; exact this)
   have hmk2 := run_bools m (by omega) wr
   have B3 := hide b3
   have X3 := hide x3
   have R3 := hide r3
   have E3 := hide e3
   have x3c : wr.cell? ⟨w.heap.size, 1, none⟩ = some (.slice B m cq) := x3.cell (i := 1) (by show 1 < 3; omega)
   have ewz : eb < wr.heap.size := e3.lt
   have x3d : (wr.alloc (.cells (Array.replicate m (Value.bool false)) 4)).cell? ⟨w.heap.size, 1, none⟩ = some (.slice B m cq) := (x3.alloc _).cell (i := 1) (by show 1 < 3; omega)
   clear b3 x3 r3 e3 hkn HE hel
   go_wp2
   clear hmk2 x3c x3d
   obtain ⟨W4, hW4⟩ : ∃ W4 : World, W4 = wr.alloc (.cells (Array.replicate m (Value.bool false)) 4) := ⟨_, rfl⟩
   have B4 := hide (show Below w.heap.size w W4 by rw [hW4]; exact B3.out.alloc (by omega) _)
   have X4 := hide (show Row W4 w.heap.size 28 (boxV A B d.n cp m cq (.int .i64 d.lp)) by rw [hW4]; exact X3.out.alloc _)
   have R4 := hide (show IRow W4 g ps by rw [hW4]; exact Row.alloc R3.out _)
   have E4 := hide (show IRow W4 eb es by rw [hW4]; exact Row.alloc E3.out _)
   have S4 := hide (show BRow W4 wr.heap.size (List.replicate (4 * d.n) false) by rw [hW4, ← HM.out]; exact BRow.made wr m)
   rw [← hW4]
   clear hW4 B3 X3 R3 E3
   generalize wr.heap.size = sb at ewz S4 ⊢
   go_loopg [40] m (fun g' i wx => ∃ (k : Nat) (es : List Int) (bs : List Bool), k + g' = m ∧ i = .int .i64 k ∧ Pl.Ex d ps es P d.n k ∧ Pl.SQ d k bs ∧ Below w.heap.size w wx ∧ Row wx w.heap.size 28 (boxV A B d.n cp m cq (.int .i64 d.lp)) ∧ IRow wx g ps ∧ IRow wx eb es ∧ BRow wx sb bs)
   case atStart => exact ⟨0, es, _, by omega, rfl, HE'.out, Pl.SQ.start d, B4.out, X4.out, R4.out, E4.out, S4.out⟩
   case round =>
    clear B4 X4 R4 E4 S4 HG HEL HE'
    obtain ⟨j, e5, bs, hjg, rfl, hex, hsq, b6, x6, r6, e6, s6⟩ := hrel
    have HG := hide hjg
    have HE := hide hex
    have HS := hide hsq
    have hjs : j ≤ m := by omega
    have HEL := hide hex.1
    have HSL := hide hsq.len
    clear hjg hex hsq
    by_cases hjm : j < m
    ·have hj4 : j < 4 * d.n := by have := HM.out; omega
     have c1 := s6.cell (i := j) (by have := HSL.out; omega)
     by_cases hseen : Pl.gb bs j = true
     ·have c1' : wr.cell? ⟨sb, j, none⟩ = some (.bool true) := by rw [c1]; exact congrArg (fun b => some (Value.bool b)) hseen
      have B6 := hide b6
      have X6 := hide x6
      have R6 := hide r6
      have E6 := hide e6
      have S6 := hide s6
      have HSE := hide (HS.out.seen HF.out hj4 hseen)
      clear c1 b6 x6 r6 e6 s6 hseen
      go_wp2
      go_roundg (gk - 1)
      case measure => have := HG.out; omega
      case rel => exact ⟨j + 1, e5, bs, by have := HG.out; omega, by go_num, HE.out.same HSE.out.2, HSE.out.1, B6.out, X6.out, R6.out, E6.out, S6.out⟩
     ·have hseen' : Pl.gb bs j = false := by simpa using hseen
      have c1' : wr.cell? ⟨sb, j, none⟩ = some (.bool false) := by rw [c1]; exact congrArg (fun b => some (Value.bool b)) hseen'
      have HSE := hide (HS.out.enter HF.out hj4 hseen')
      have hj4' : j / 4 < d.n := by omega
      obtain ⟨q, hq⟩ : ∃ q : Nat, Pl.pv ps (j / 4) = q := ⟨(Pl.pv ps (j / 4)).toNat, by have := HALL.out (j / 4) hj4'; omega⟩
      have hqP : q < P := by have := (HLB.out.lo (j / 4) hj4').2; omega
      have c2 := r6.cell (i := j / 4) (by have := HLen.out; omega)
      rw [hq] at c2
      have c3 := e6.cell (i := q) (by have := HEL.out; omega)
      have f3 := Row.free e6 q
      have hlo : -1000 ≤ Pl.pv e5 q ∧ Pl.pv e5 q ≤ 1000 := by
       have h1 := HE.out.2 q hqP
       have h2 : Pl.nf d ps q j ≤ j := Pl.cnt_top _ j
       have h3 : Pl.nv ps q d.n ≤ d.n := Pl.cnt_top _ d.n
       omega
      have HQ := hide hq
      have B6 := hide b6
      have X6 := hide x6
      have R6 := hide r6
      have E6 := hide e6
      have S6 := hide s6
      obtain ⟨wo, rfl⟩ : ∃ wo : World, wo = wr := ⟨_, rfl⟩
      clear c1 b6 x6 r6 e6 s6 hseen hseen' hq
      go_wp2
      obtain ⟨W5, hW5⟩ : ∃ W5 : World, W5 = wo.setCell ⟨eb, q, none⟩ (.int .i64 (Pl.pv e5 q + 1)) := ⟨_, rfl⟩
      have B7 := hide (show Below w.heap.size w W5 by rw [hW5]; exact B6.out.setCell (by simp; omega) _)
      have X7 := hide (show Row W5 w.heap.size 28 (boxV A B d.n cp m cq (.int .i64 d.lp)) by rw [hW5]; exact X6.out.other (by simp; omega) _)
      have R7 := hide (show IRow W5 g ps by rw [hW5]; exact Row.other R6.out (by simp; omega) _)
      have E7 := hide (show IRow W5 eb (e5.set q (Pl.pv e5 q + 1)) by rw [hW5]; exact E6.out.set q _)
      have S7 := hide (show BRow W5 sb bs by rw [hW5]; exact Row.other S6.out (by simp; omega) _)
      rw [← hW5]
      clear hW5 B6 X6 R6 E6 S6 c1' c2 c3 f3
      go_loopg [10] (Pl.uns bs) (fun g' v wx => ∃ (i : Nat) (b8 : List Bool), g' = Pl.uns b8 ∧ v = .int .i64 (Pl.it (Pl.nx d) i j : Nat) ∧ Pl.SI d j i b8 ∧ Below w.heap.size w wx ∧ Row wx w.heap.size 28 (boxV A B d.n cp m cq (.int .i64 d.lp)) ∧ IRow wx g ps ∧ IRow wx eb (e5.set q (Pl.pv e5 q + 1)) ∧ BRow wx sb b8)
      case atStart => exact ⟨0, bs, rfl, rfl, HSE.out.1, B7.out, X7.out, R7.out, E7.out, S7.out⟩
      case round =>
       clear B7 X7 R7 E7 S7
       obtain ⟨i, b8, hgk, rfl, hsi, b9, x9, r9, e9, s9⟩ := hrel
       have HGK := hide hgk
       have HSI := hide hsi
       have HSZ := hide hsi.len
       have hcur4 := hsi.lt HF.out
       clear hgk hsi
       obtain ⟨cur, hcur⟩ : ∃ cur, cur = Pl.it (Pl.nx d) i j := ⟨_, rfl⟩
       rw [← hcur] at hcur4 ⊢
       have HC := hide hcur
       clear hcur
       have hcm : cur < m := by have := HM.out; omega
       have c1 := s9.cell (i := cur) (by have := HSZ.out; omega)
       have f1 := Row.free s9 cur
       by_cases hseen : Pl.gb b8 cur = true
       ·have c1' : wr.cell? ⟨sb, cur, none⟩ = some (.bool true) := by rw [c1]; exact congrArg (fun b => some (Value.bool b)) hseen
        have HD := hide (HSI.out.done HF.out (by rw [← HC.out]; exact hseen))
        have B9 := hide b9
        have X9 := hide x9
        have R9 := hide r9
        have E9 := hide e9
        have S9 := hide s9
        clear c1 f1 b9 x9 r9 e9 s9 hseen
        go_wp2
        go_roundg (m - (j + 1))
        case measure => have := HG.out; omega
        case rel => exact ⟨j + 1, _, b8, by omega, by go_num, HE.out.more hqP HQ.out HSE.out.2, HD.out, B9.out, X9.out, R9.out, E9.out, S9.out⟩
       ·have hseen' : Pl.gb b8 cur = false := by simpa using hseen
        have c1' : wr.cell? ⟨sb, cur, none⟩ = some (.bool false) := by rw [c1]; exact congrArg (fun b => some (Value.bool b)) hseen'
        obtain ⟨bb, bo, rfl, hmc⟩ := mate_at hg.m hcur4
        have hml := HF.out.lt _ hcur4
        have b10 : Below w.heap.size w (wr.setCell ⟨sb, cur, none⟩ (.bool true)) := b9.setCell (by simp; omega) _
        have c2 := cell_below hmc b10
        have x10 : Row (wr.setCell ⟨sb, cur, none⟩ (.bool true)) w.heap.size 28 (boxV A (some ⟨bb, bo, none⟩) d.n cp m cq (.int .i64 d.lp)) := x9.other (by simp; omega) _
        have c3 : (wr.setCell ⟨sb, cur, none⟩ (.bool true)).cell? ⟨w.heap.size, 1, none⟩ = some (.slice (some ⟨bb, bo, none⟩) m cq) := x10.cell (i := 1) (by show 1 < 3; omega)
        have B9 := hide b10
        have X9 := hide x10
        have R9 := hide (show IRow (wr.setCell ⟨sb, cur, none⟩ (.bool true)) g ps from Row.other r9 (by simp; omega) _)
        have E9 := hide (show IRow (wr.setCell ⟨sb, cur, none⟩ (.bool true)) eb (e5.set q (Pl.pv e5 q + 1)) from Row.other e9 (by simp; omega) _)
        have S9 := hide (s9.set cur true)
        have HU := hide (Pl.uns_set (by have := HSZ.out; omega) hseen')
        clear c1 b10 x10 b9 x9 r9 e9 s9 hseen hseen' hmc
        go_wp2_with fail
        refine (turn_back _ _ (by omega)).mono ?_
        rintro e w9 ⟨rfl, rfl⟩
        go_wp2
        go_roundg (gk - 1)
        case measure => have h1 := HGK.out; have h2 := HU.out; omega
        case rel => exact ⟨i + 1, b8.set cur true, by have h1 := HGK.out; have h2 := HU.out; omega, by rw [HC.out]; rfl, by have := HSI.out.step HF.out; rw [← HC.out] at this; exact this, B9.out, X9.out, R9.out, E9.out, S9.out⟩
    ·have hjm' : j = 4 * d.n := by have := HM.out; omega
     have HE' := hide (show Pl.Ex d ps e5 P d.n (4 * d.n) by have := HE.out; rw [hjm'] at this; exact this)
     have HR := hide (HE'.out.rule HF.out HLB.out HALL.out)
     have B6 := hide b6
     have E6 := hide e6
     clear b6 x6 r6 e6 s6 hjm' HE
     go_wp2
     go_loopg [75] P (fun g' i wx => ∃ k : Nat, k + g' = P ∧ i = .int .i64 k ∧ (∀ p, p < k → Pl.pv e5 p = 2) ∧ Below w.heap.size w wx ∧ IRow wx eb e5)
     case atStart => exact ⟨0, by omega, rfl, fun p hp => absurd hp (by omega), B6.out, E6.out⟩
     case round =>
      clear B6 E6
      obtain ⟨k, hkg, rfl, hall2, b7, e7⟩ := hrel
      have HGG := hide hkg
      have HA2 := hide hall2
      have hkP : k ≤ P := by omega
      clear hkg hall2
      by_cases hlt : k < P
      ·have c1 := e7.cell (i := k) (by have := HEL.out; omega)
       have B7 := hide b7
       have E7 := hide e7
       clear b7 e7
       by_cases h2 : Pl.pv e5 k = 2
       ·have H2 := hide h2
        rw [h2] at c1
        clear h2
        go_wp2
        go_roundg (gk - 1)
        case measure => have := HGG.out; omega
        case rel =>
         refine ⟨k + 1, by have := HGG.out; omega, by go_num, fun p hp => ?_, B7.out, E7.out⟩
         by_cases e : p = k
         ·rw [e]; exact H2.out
         ·exact HA2.out p (by omega)
       ·have hb2 : (Pl.pv e5 k != 2) = true := by rw [bne_iff_ne]; exact h2
        have H2 := hide h2
        clear h2
        go_wp2
        go_ret
        exact ⟨ret_bool (Pl.vb_false (fun hr => H2.out (HR.out.2 hr k hlt))).symm, B7.out⟩
      ·have hkP' : k = P := by omega
       have B7 := hide b7
       clear b7 e7
       go_wp2
       go_ret
       exact ⟨ret_bool (Pl.vb_true (HR.out.1 (fun p hp => HA2.out p (by omega)))).symm, B7.out⟩
theorem spherical_n (d : Pl.Dg) (hd : Pl.Wf d) (A B : Option Addr) (n q cp cq : Nat) (l : Value) (w : World) (e1 : n = d.n) (e2 : q = 4 * d.n) (hl : l = .int .i64 d.lp) (hg : DgAt w A B d) :
 Calls Tryd.prog 57 #[.agg #[.slice A n cp, .slice B q cq, l]] w fun e w' => e = .returned (.bool (Pl.vb (Pl.Rule d))) ∧ Below w.heap.size w w' := by
 subst e1; subst e2; exact spherical_any d hd A B cp cq l w hl hg
end Go.Proofs.YtcaoblilkgajoaaDoor
end
section
namespace Go.Proofs.YtcaoblilkgajoaaDoor.Pl
def mk (sg mt : List Int) (lp : Int) : Dg := ⟨sg, mt.map Int.toNat, lp.toNat⟩
def VL (sg mt : List Int) (lp : Int) : Prop := Valid (mk sg mt lp) ∧ (∀ z, z ∈ mt → 0 ≤ z) ∧ 0 ≤ lp
variable {sg mt : List Int} {lp : Int}
theorem mk_n (sg mt : List Int) (lp : Int) : (mk sg mt lp).n = sg.length := rfl
theorem mk_m {h : Nat} (hh : h < mt.length) : (mk sg mt lp).m h = (pv mt h).toNat := by
 unfold Dg.m mk pv
 rw [List.getD_eq_getElem?_getD, List.getD_eq_getElem?_getD, List.getElem?_map, List.getElem?_eq_getElem hh]; rfl
theorem nats_mk (h : ∀ z, z ∈ mt → 0 ≤ z) : (mk sg mt lp).mt.map (fun m : Nat => (m : Int)) = mt := by
 unfold mk
 rw [List.map_map]
 refine (List.map_congr_left (fun z hz => ?_)).trans (List.map_id mt)
 have := h z hz
 simp only [Function.comp_apply, id_eq]
 omega
theorem pv_mem {l : List Int} {h : Nat} (hh : h < l.length) : pv l h ∈ l := by
 unfold pv
 rw [List.getD_eq_getElem?_getD, List.getElem?_eq_getElem hh]
 exact List.getElem_mem hh
theorem VL.few (h : VL sg mt lp) : sg.length ≤ 64 := h.1.wf.few
theorem VL.len (h : VL sg mt lp) : mt.length = 4 * sg.length := by have := h.1.wf.len; unfold mk Dg.n at this; simpa using this
theorem VL.loops (h : VL sg mt lp) : 0 ≤ lp ∧ lp ≤ 64 := by
 have h1 := h.1.wf.lp
 have h2 := h.2.2
 unfold mk at h1
 simp only at h1
 omega
theorem VL.sign (h : VL sg mt lp) {c : Nat} (hc : c < sg.length) : pv sg c = 1 ∨ pv sg c = -1 := h.1.wf.sign c hc
theorem VL.mate (h : VL sg mt lp) {k : Nat} (hk : k < mt.length) : 0 ≤ pv mt k ∧ pv mt k < mt.length ∧ pv mt k ≠ k ∧ pv mt (pv mt k).toNat = k ∧ out (mk sg mt lp) k ≠ out (mk sg mt lp) (pv mt k).toNat := by
 have hl := h.len
 have hw := h.1.wf
 have h0 := h.2.1 _ (pv_mem hk)
 have hk4 : k < 4 * (mk sg mt lp).n := by rw [mk_n]; omega
 have h1 := hw.lt k hk4
 have h2 := hw.ne k hk4
 have h3 := hw.inv k hk4
 have h4 := hw.way k hk4
 rw [mk_m hk] at h1 h2 h3 h4
 rw [mk_n] at h1
 have hm : (pv mt k).toNat < mt.length := by omega
 rw [mk_m hm] at h3
 have h5 := h.2.1 _ (pv_mem hm)
 exact ⟨h0, by omega, by omega, by omega, h4⟩
theorem wf_of (h1 : sg.length ≤ 64) (h2 : mt.length = 4 * sg.length) (h3 : 0 ≤ lp ∧ lp ≤ 64) (h4 : ∀ c, c < sg.length → pv sg c = 1 ∨ pv sg c = -1)
 (h5 : ∀ k, k < mt.length → 0 ≤ pv mt k ∧ pv mt k < mt.length ∧ pv mt k ≠ k ∧ pv mt (pv mt k).toNat = k ∧ out (mk sg mt lp) k ≠ out (mk sg mt lp) (pv mt k).toNat) : Wf (mk sg mt lp) := by
 refine ⟨h1, by unfold mk Dg.n; simpa using h2, by unfold mk; simp only; omega, h4, fun h hh => ?_, fun h hh => ?_, fun h hh => ?_, fun h hh => ?_⟩
 all_goals
  rw [mk_n] at hh
  have hl : h < mt.length := by omega
  obtain ⟨g1, g2, g3, g4, g5⟩ := h5 h hl
  rw [mk_m hl]
 ·rw [mk_n]; omega
 ·omega
 ·rw [mk_m (by omega), g4]; rfl
 ·exact g5
theorem VL.of (hw : Wf (mk sg mt lp)) (hp : ∀ z, z ∈ mt → 0 ≤ z) (hl : 0 ≤ lp) : VL sg mt lp ↔ Rule (mk sg mt lp) :=
 ⟨fun h => h.1.flat, fun h => ⟨⟨hw, h⟩, hp, hl⟩⟩
theorem mem_pv {l : List Int} {z : Int} (h : z ∈ l) : ∃ k, k < l.length ∧ pv l k = z := by
 obtain ⟨k, hk, e⟩ := List.mem_iff_getElem.1 h
 exact ⟨k, hk, by unfold pv; rw [List.getD_eq_getElem?_getD, List.getElem?_eq_getElem hk]; exact e⟩
end Go.Proofs.YtcaoblilkgajoaaDoor.Pl
end
section
namespace Go.Proofs.YtcaoblilkgajoaaDoor
open Go.RowKit
structure Cls (C : World → Prop) where
 w : World
 ok : C w
theorem wp_region_cls {P : Program} (C : World → Prop) {id : Nat} {Q : Exit → Act → World → Prop} {a : Act} {w : World} {l : List Oper} (hm : P.follows .mixedOrders = true) (hB : Region.lexB .any l.toArray = true)
 (hC : C { w with drawn := w.drawn + 1 })
 (h : Nonempty (Cls C) → wpQuiet P l.toArray (fun w' => ∃ p : Cls C, w' = p.w) (fun a' => ∀ w', (∃ p : Cls C, w' = p.w) → Q .normal a' w') l a) : (Code.region id l.toArray true).wp P Q a w :=
 wp_region_quiet (C := fun w' => ∃ p : Cls C, w' = p.w) hm hB ⟨⟨_, hC⟩, rfl⟩ (by simpa using h ⟨⟨_, hC⟩⟩)
theorem calls_cls {P : Program} {C : World → Prop} {f : FuncId} {args : Array Value} {w : World} {v : Value} {R : Ending → World → Prop} (h : Calls P f args w R) (hR : ∀ e w', R e w' → e = .returned v ∧ C w') :
 Calls P f args w fun e w'' => e = .returned v ∧ ∃ p : Cls C, w'' = p.w :=
 h.mono fun e w' hr => let ⟨h1, h2⟩ := hR e w' hr; ⟨h1, ⟨w', h2⟩, rfl⟩
end Go.Proofs.YtcaoblilkgajoaaDoor
end
section
namespace Go.Proofs.YtcaoblilkgajoaaDoor
open Go.RowKit
theorem ints_pv {w : World} {A : Option Addr} {n k : Nat} {zs : List Int} (h : IntsAt w A n zs) (hk : k < n) :
 ∃ b o, A = some ⟨b, o, none⟩ ∧ w.cell? ⟨b, o + k, none⟩ = some (.int .i64 (Pl.pv zs k)) := h.at_ hk
set_option maxRecDepth 100000 in
set_option maxHeartbeats 1500000 in
theorem valid_any (sg mt : List Int) (lp : Int) (A B : Option Addr) (n q cp cq : Nat) (w : World) (hs : IntsAt w A n sg) (hm : IntsAt w B q mt) (hn : n ≤ maxLen) (hq : q ≤ maxLen) (hlp : -9223372036854775808 ≤ lp ∧ lp ≤ 9223372036854775807) :
 Calls Tryd.prog 30 #[.agg #[.slice A n cp, .slice B q cq, .int .i64 lp]] w fun e w' => e = .returned (.bool (Pl.vb (Pl.VL sg mt lp))) ∧ Below w.heap.size w w' := by
 unfold maxLen at hn hq
 have HLS := hide hs.len
 have HLM := hide hm.len
 have b0 : Below w.heap.size w (w.alloc (.cells #[.slice A n cp, .slice B q cq, .int .i64 lp] 28)) := (Below.refl _ _).alloc (Nat.le_refl _) _
 by_cases h1 : 64 < n
 ·have HV := hide (fun h : Pl.VL sg mt lp => show False by have := h.few; have := HLS.out; omega)
  go_enter Tryd.func30, Tryd.ntmps30
  go_wp2
  go_ret
  exact ⟨ret_bool (Pl.vb_false HV.out).symm, b0⟩
 ·have h1' : decide (64 < (n : Int)) = false := by simp; omega
  by_cases h2 : q = 4 * n
  ·by_cases h3 : 0 ≤ lp ∧ lp ≤ 64
   ·have h2' : (((q : Nat) : Int) != 4 * (n : Int)) = false := by simp; omega
    have h3a : decide (lp < 0) = false := by simp; omega
    have h3b : decide (64 < lp) = false := by simp; omega
    have HQ4 := hide h2
    have hq6 : q ≤ 256 := by omega
    clear h2
    have x0 : Row (w.alloc (.cells #[.slice A n cp, .slice B q cq, .int .i64 lp] 28)) w.heap.size 28 (boxV A B n cp q cq (.int .i64 lp)) := Row.new w _ _
    go_enter Tryd.func30, Tryd.ntmps30
    go_wp2
    have B0 := hide b0
    have X0 := hide x0
    clear b0 x0 h1' h2' h3a h3b
    go_loopg [34] n (fun g i wx => ∃ k : Nat, k + g = n ∧ i = .int .i64 k ∧ (∀ c, c < k → Pl.pv sg c = 1 ∨ Pl.pv sg c = -1) ∧ Below w.heap.size w wx ∧ Row wx w.heap.size 28 (boxV A B n cp q cq (.int .i64 lp)))
    case atStart => exact ⟨0, by omega, rfl, fun c hc => absurd hc (by omega), B0.out, X0.out⟩
    case round =>
     clear B0 X0
     obtain ⟨k, hkg, rfl, hsg, b1, x1⟩ := hrel
     have HG := hide hkg
     have HSG := hide hsg
     have hkn : k ≤ n := by omega
     clear hkg hsg
     by_cases hlt : k < n
     ·obtain ⟨ab, ao, rfl, hc⟩ := ints_pv hs hlt
      have hc1 := cell_below hc b1
      have B1 := hide b1
      have X1 := hide x1
      clear b1 x1 hc
      by_cases hz : Pl.pv sg k = 1
      ·have HZ := hide hz
       rw [hz] at hc1
       clear hz
       go_wp2
       go_roundg (gk - 1)
       case measure => have := HG.out; omega
       case rel =>
        refine ⟨k + 1, by have := HG.out; omega, by go_num, fun c hc => ?_, B1.out, X1.out⟩
        by_cases e : c = k
        ·rw [e]; exact .inl HZ.out
        ·exact HSG.out c (by omega)
      ·by_cases hz2 : Pl.pv sg k = -1
       ·have HZ := hide hz2
        rw [hz2] at hc1
        clear hz hz2
        go_wp2
        go_roundg (gk - 1)
        case measure => have := HG.out; omega
        case rel =>
         refine ⟨k + 1, by have := HG.out; omega, by go_num, fun c hc => ?_, B1.out, X1.out⟩
         by_cases e : c = k
         ·rw [e]; exact .inr HZ.out
         ·exact HSG.out c (by omega)
       ·have HV := hide (fun h : Pl.VL sg mt lp => show False by
         rcases h.sign (c := k) (by have := HLS.out; omega) with e | e
         ·exact hz e
         ·exact hz2 e)
        have t1 : (Pl.pv sg k != 1) = true := by rw [bne_iff_ne]; exact hz
        have t2 : (Pl.pv sg k != -1) = true := by rw [bne_iff_ne]; exact hz2
        clear hz hz2
        go_wp2
        go_ret
        exact ⟨ret_bool (Pl.vb_false HV.out).symm, B1.out⟩
     ·have HSG' := hide (fun (c : Nat) (hc : c < sg.length) => HSG.out c (by have := HLS.out; omega))
      have B1 := hide b1
      have X1 := hide x1
      have x1c : wr.cell? ⟨w.heap.size, 1, none⟩ = some (.slice B q cq) := x1.cell (i := 1) (by show 1 < 3; omega)
      clear b1 x1 HSG HG
      go_wp2
      clear x1c
      go_loopg [48] q (fun g i wx => ∃ k : Nat, k + g = q ∧ i = .int .i64 k ∧ (∀ h, h < k → 0 ≤ Pl.pv mt h ∧ Pl.pv mt h < mt.length ∧ Pl.pv mt h ≠ h ∧ Pl.pv mt (Pl.pv mt h).toNat = h ∧ Pl.out (Pl.mk sg mt lp) h ≠ Pl.out (Pl.mk sg mt lp) (Pl.pv mt h).toNat) ∧ Below w.heap.size w wx ∧ Row wx w.heap.size 28 (boxV A B n cp q cq (.int .i64 lp)))
      case atStart => exact ⟨0, by omega, rfl, fun c hc => absurd hc (by omega), B1.out, X1.out⟩
      case round =>
       clear B1 X1
       obtain ⟨j, hjg, rfl, hmo, b2, x2⟩ := hrel
       have HG := hide hjg
       have HMO := hide hmo
       have hjq : j ≤ q := by omega
       clear hjg hmo
       by_cases hlt2 : j < q
       ·obtain ⟨bb, bo, rfl, hc⟩ := ints_pv hm hlt2
        have hc1 := cell_below hc b2
        have x2c : wr.cell? ⟨w.heap.size, 1, none⟩ = some (.slice (some ⟨bb, bo, none⟩) q cq) := x2.cell (i := 1) (by show 1 < 3; omega)
        have hjl : j < mt.length := by have := HLM.out; omega
        have B2 := hide b2
        have X2 := hide x2
        clear b2 x2 hc
        by_cases hz0 : Pl.pv mt j < 0
        ·have HV := hide (fun h : Pl.VL sg mt lp => show False by have := (h.mate hjl).1; omega)
         have t1 : decide (Pl.pv mt j < 0) = true := by simpa using hz0
         clear hz0
         go_wp2
         go_ret
         exact ⟨ret_bool (Pl.vb_false HV.out).symm, B2.out⟩
        ·have t1 : decide (Pl.pv mt j < 0) = false := by simpa using hz0
         by_cases hz1 : Pl.pv mt j < q
         ·obtain ⟨t, ht⟩ : ∃ t : Nat, Pl.pv mt j = t := ⟨(Pl.pv mt j).toNat, by omega⟩
          have htq : t < q := by omega
          have t2 : decide (4 * (n : Int) ≤ (t : Int)) = false := by have := HQ4.out; simp; omega
          rw [ht] at hc1 t1
          have HT := hide ht
          have hj4 : j < 4 * n := by have := HQ4.out; omega
          have ht4 : t < 4 * n := by have := HQ4.out; omega
          clear hz0 hz1 ht
          by_cases htj : t = j
          ·have HV := hide (fun h : Pl.VL sg mt lp => show False by have := (h.mate hjl).2.2.1; rw [HT.out] at this; omega)
           have t3 : (((t : Nat) : Int) == (j : Int)) = true := by simp; omega
           clear htj
           go_wp2
           go_ret
           exact ⟨ret_bool (Pl.vb_false HV.out).symm, B2.out⟩
          ·have t3 : (((t : Nat) : Int) == (j : Int)) = false := by simp; omega
           obtain ⟨bb', bo', ebb, hcb⟩ := ints_pv hm htq
           injection ebb with ebb
           injection ebb with ebb1 ebb2
           subst ebb1; subst ebb2
           have hc2 := cell_below hcb B2.out
           clear hcb
           by_cases hinv : Pl.pv mt t = j
           ·have HI := hide hinv
            rw [hinv] at hc2
            clear hinv
            have HSS := hide (fun (p : Cls (fun w' => Row w' w.heap.size 28 (boxV A (some ⟨bb, bo, none⟩) n cp q cq (.int .i64 lp)) ∧ Below w.heap.size w w')) (h : Nat) (hh : h < 4 * n) =>
             calls_cls (C := fun w' => Row w' w.heap.size 28 (boxV A (some ⟨bb, bo, none⟩) n cp q cq (.int .i64 lp)) ∧ Below w.heap.size w w')
              (out_n (Pl.mk sg mt lp) A (some ⟨bb, bo, none⟩) n cp q cq (.int .i64 lp) h p.w HLS.out.symm hh (by omega) (hs.keep p.ok.2)) (fun e w' h => ⟨h.1, p.ok.1.below h.2, p.ok.2.trans (h.2.mono p.ok.2.size)⟩))
            have c30 : ∀ p : Cls (fun w' => Row w' w.heap.size 28 (boxV A (some ⟨bb, bo, none⟩) n cp q cq (.int .i64 lp)) ∧ Below w.heap.size w w'), p.w.cell? ⟨w.heap.size, 0, none⟩ = some (.slice A n cp) := fun p => p.ok.1.cell (i := 0) (by show 0 < 3; omega)
            have c31 : ∀ p : Cls (fun w' => Row w' w.heap.size 28 (boxV A (some ⟨bb, bo, none⟩) n cp q cq (.int .i64 lp)) ∧ Below w.heap.size w w'), p.w.cell? ⟨w.heap.size, 1, none⟩ = some (.slice (some ⟨bb, bo, none⟩) q cq) := fun p => p.ok.1.cell (i := 1) (by show 1 < 3; omega)
            have c32 : ∀ p : Cls (fun w' => Row w' w.heap.size 28 (boxV A (some ⟨bb, bo, none⟩) n cp q cq (.int .i64 lp)) ∧ Below w.heap.size w w'), p.w.cell? ⟨w.heap.size, 2, none⟩ = some (.int .i64 lp) := fun p => p.ok.1.cell (i := 2) (by show 2 < 3; omega)
            go_wp2
            refine wp_region_cls (fun w' => Row w' w.heap.size 28 (boxV A (some ⟨bb, bo, none⟩) n cp q cq (.int .i64 lp)) ∧ Below w.heap.size w w') (by kernel_rfl) (by kernel_rfl) ⟨X2.out.drew, B2.out.drew⟩ (fun hne => ?_)
            repeat (quiet_step ((go_at_call 56; exact HSS.out _ _ (by omega))))
            refine wpQuiet_nil ?_
            rintro _ ⟨p, rfl⟩
            have hp1 := hide p.ok.1
            have hp2 := hide p.ok.2
            clear HSS c30 c31 c32
            go_wp2
            ·have t5 : (Pl.out (Pl.mk sg mt lp) j == Pl.out (Pl.mk sg mt lp) t) = true := by assumption
             go_ret
             refine ⟨ret_bool (Pl.vb_false fun h => ?_).symm, hp2.out⟩
             have h5 := (h.mate hjl).2.2.2.2
             rw [HT.out, Int.toNat_natCast] at h5
             exact h5 (beq_iff_eq.1 t5)
            ·have t5 : (Pl.out (Pl.mk sg mt lp) j == Pl.out (Pl.mk sg mt lp) t) = false := by assumption
             go_roundg (gk - 1)
             case measure => have := HG.out; omega
             case rel =>
              refine ⟨j + 1, by have := HG.out; omega, by go_num, fun h hh => ?_, hp2.out, hp1.out⟩
              by_cases e : h = j
              ·subst e
               rw [HT.out, Int.toNat_natCast]
               exact ⟨by omega, by have := HLM.out; omega, by omega, HI.out, beq_eq_false_iff_ne.1 t5⟩
              ·exact HMO.out h (by omega)
           ·have HV := hide (fun h : Pl.VL sg mt lp => show False by
             have := (h.mate hjl).2.2.2.1
             rw [HT.out, Int.toNat_natCast] at this
             exact hinv this)
            have t4 : (Pl.pv mt t != (j : Int)) = true := by rw [bne_iff_ne]; exact hinv
            clear hinv
            go_wp2
            go_ret
            exact ⟨ret_bool (Pl.vb_false HV.out).symm, B2.out⟩
         ·have HV := hide (fun h : Pl.VL sg mt lp => show False by have := (h.mate hjl).2.1; have := HLM.out; omega)
          have t2 : decide (4 * (n : Int) ≤ Pl.pv mt j) = true := by have := HQ4.out; simp; omega
          clear hz0 hz1
          go_wp2
          go_ret
          exact ⟨ret_bool (Pl.vb_false HV.out).symm, B2.out⟩
       ·have hjq' : j = q := by omega
        have hw := Pl.wf_of (sg := sg) (mt := mt) (lp := lp) (by have := HLS.out; omega) (by have := HLS.out; have := HLM.out; have := HQ4.out; omega) h3 HSG'.out (fun k hk => HMO.out k (by have := HLM.out; omega))
        have hpos : ∀ z, z ∈ mt → 0 ≤ z := fun z hz => by
         obtain ⟨k, hk, rfl⟩ := Pl.mem_pv hz
         exact (HMO.out k (by have := HLM.out; omega)).1
        have HW := hide hw
        have HR := hide (Pl.VL.of hw hpos h3.1)
        have HN := hide (Pl.nats_mk (sg := sg) (lp := lp) hpos)
        have B2 := hide b2
        have x20 : wr.cell? ⟨w.heap.size, 0, none⟩ = some (.slice A n cp) := x2.cell (i := 0) (by show 0 < 3; omega)
        have x21 : wr.cell? ⟨w.heap.size, 1, none⟩ = some (.slice B q cq) := x2.cell (i := 1) (by show 1 < 3; omega)
        have x22 : wr.cell? ⟨w.heap.size, 2, none⟩ = some (.int .i64 lp) := x2.cell (i := 2) (by show 2 < 3; omega)
        clear b2 x2 hw hpos hjq'
        go_wp2_with fail
        refine (spherical_n (Pl.mk sg mt lp) HW.out A B n q cp cq (.int .i64 lp) _ HLS.out.symm (by have := HQ4.out; have := HLS.out; rw [Pl.mk_n]; omega) ?_ ⟨?_, ?_⟩).mono ?_
        ·show Value.int .i64 lp = .int .i64 ((lp.toNat : Nat) : Int)
         rw [Int.toNat_of_nonneg h3.1]
        ·rw [Pl.mk_n, HLS.out]; exact hs.keep B2.out
        ·unfold nats
         rw [HN.out, Pl.mk_n, HLS.out, ← HQ4.out]; exact hm.keep B2.out
        rintro e w3 ⟨rfl, hb3⟩
        go_wp2
        go_ret
        exact ⟨ret_bool (congrArg Pl.vb (propext HR.out.symm)), B2.out.trans (hb3.mono B2.out.size)⟩
   ·have HV := hide (fun h : Pl.VL sg mt lp => show False by have := h.loops; omega)
    have h2' : (((q : Nat) : Int) != 4 * (n : Int)) = false := by simp; omega
    have HQ2 := hide h2
    clear h2
    go_enter Tryd.func30, Tryd.ntmps30
    go_wp2
    all_goals
     go_ret
     exact ⟨ret_bool (Pl.vb_false HV.out).symm, b0⟩
  ·have HV := hide (fun h : Pl.VL sg mt lp => show False by have := h.len; have := HLS.out; have := HLM.out; omega)
   have h2' : (((q : Nat) : Int) != 4 * (n : Int)) = true := by simp; omega
   go_enter Tryd.func30, Tryd.ntmps30
   go_wp2
   go_ret
   exact ⟨ret_bool (Pl.vb_false HV.out).symm, b0⟩
end Go.Proofs.YtcaoblilkgajoaaDoor
end
section
namespace Go.Proofs.YtcaoblilkgajoaaDoor.Pl
def left (n : Nat) (gs : List Nat) : List Nat := (List.range n).filter (fun c => !gs.contains c)
end Go.Proofs.YtcaoblilkgajoaaDoor.Pl
end
section
namespace Go.Proofs.YtcaoblilkgajoaaDoor
open Go.RowKit
theorem below_drewN {B : Nat} {a w : World} (h : Below B a w) (n : Nat) : Below B a (w.drewN n) := ⟨h.os, h.tape, h.output, h.size, h.block⟩
def kk (d : Pl.Dg) (c : Nat) : Nat := if d.m (4 * c + 2) / 4 = c then 4 * c + 2 else if d.s c = 1 then 4 * c + 1 else 4 * c + 3
end Go.Proofs.YtcaoblilkgajoaaDoor
end
section
namespace Go.Proofs.YtcaoblilkgajoaaDoor
open Go.RowKit
theorem nats_at {w : World} {A : Option Addr} {n k : Nat} {gs : List Nat} (h : IntsAt w A n (nats gs)) (hk : k < n) :
 ∃ b o, A = some ⟨b, o, none⟩ ∧ w.cell? ⟨b, o + k, none⟩ = some (.int .i64 (gs.getD k 0 : Nat)) := by
 obtain ⟨b, o, e, hc⟩ := h.at_ hk
 refine ⟨b, o, e, hc.trans ?_⟩
 have hl := h.len
 unfold nats at hl ⊢
 rw [List.length_map] at hl
 rw [List.getD_eq_getElem?_getD, List.getD_eq_getElem?_getD, List.getElem?_map, List.getElem?_eq_getElem (by omega)]; rfl
end Go.Proofs.YtcaoblilkgajoaaDoor
end
section
namespace Go.Proofs.YtcaoblilkgajoaaDoor
open Go Go.RowKit
theorem one_news (W : World) (x : Value) : ∀ j u, [x][j]? = some u → (W.alloc (.cells #[x] 3)).cell? ((⟨W.heap.size, 0, none⟩ : Addr).add j) = some u := by
 intro j u hu
 match j, hu with
 | 0, hu => simp at hu; subst hu; exact (Lib.cell_of_heap (heap_alloc_new W _) 0).trans rfl
end Go.Proofs.YtcaoblilkgajoaaDoor
end
section
namespace Go.Proofs.YtcaoblilkgajoaaDoor
open Go Go.RowKit
section
variable {w : World} {gi : Nat} {x0 x1 x2 y0 y1 y2 y3 y4 : Value} {W W' : World}
end
theorem own_ints' {w : World} {base : Nat} {e : TypeId} {A : Option Addr} {n c : Nat} {zs : List Int} (h : w.ownsRow base e 1 (.slice A n c) n (zs.map (.int .i64))) : IntsAt w A n zs := by
 have hl := h.1
 rcases h.2 with ⟨h1, h2⟩ | ⟨g, cap, cur, h1, _⟩
 ·subst h2
  exact ⟨by simpa using hl, fun h => absurd h (by omega)⟩
 ·injection h1 with h1 _ h3
  subst h1
  exact own_ints h
theorem map_nats (l : List Nat) : (nats l).map (Value.int .i64) = l.map (fun k : Nat => Value.int .i64 k) := by unfold nats; rw [List.map_map]; rfl
theorem row_at {W : World} {t : TypeId} {vs : List Value} {g : Nat} (h : g = W.heap.size) : Row (W.alloc (.cells vs.toArray t)) g t vs := by subst h; exact Row.new W t vs
end Go.Proofs.YtcaoblilkgajoaaDoor
end
section
namespace Go.Proofs.YtcaoblilkgajoaaDoor
open Go Go.RowKit
theorem own_one (W : World) (x : Value) : (W.alloc (.cells #[x] 3)).ownsRow W.heap.size 3 1 (.slice (some ⟨W.heap.size, 0, none⟩) 1 1) 1 [x] :=
 ⟨rfl, .inr ⟨W.heap.size, 1, #[x], rfl, Nat.le_refl _, heap_alloc_new W _, Nat.le_refl _, by unfold maxLen; omega, rfl, rfl⟩⟩
end Go.Proofs.YtcaoblilkgajoaaDoor
end
section
namespace Go.Proofs.YtcaoblilkgajoaaDoor.Pl
variable {d : Dg}
structure PI (d : Dg) (ps : List Int) : Prop where
 len : ps.length = d.n
 is : ∀ c, c < d.n → ∃ b : Nat, pv ps c = b ∧ b ≤ c ∧ Comp d c b
structure PB (d : Dg) (ps : List Int) : Prop where
 len : ps.length = d.n
 is : ∀ c, c < d.n → ∃ b : Nat, pv ps c = b ∧ b ≤ c ∧ Comp d c b
 same : ∀ a b, a < d.n → Comp d a b → pv ps a = pv ps b
end Go.Proofs.YtcaoblilkgajoaaDoor.Pl
end
section
namespace Go.Proofs.YtcaoblilkgajoaaDoor
open Go Go.RowKit
def lnH (x y i : Nat) : Nat := if i < 4 then 4 * x + i else 4 * y + i - 4
def lnO (x y i : Nat) : Nat := if i < 4 then y else x
def isL (d : Pl.Dg) (x y i : Nat) : Prop := Pl.nx d (lnH x y i) / 4 = lnO x y i ∧ Pl.nx d (Pl.nx d (lnH x y i)) = lnH x y i ∧ lnH x y i % 2 = d.m (lnH x y i) % 2
instance (d : Pl.Dg) (x y i : Nat) : Decidable (isL d x y i) := by unfold isL; infer_instance
end Go.Proofs.YtcaoblilkgajoaaDoor
end
section
namespace Go.Proofs.YtcaoblilkgajoaaDoor
open Go Go.RowKit
attribute [local go_sem ↓] Go.wp_at_zero Go.wp_at_succ
def eo (d : Pl.Dg) (o : Nat) : Nat := if Pl.out d o = true then o else d.m o
def ei (d : Pl.Dg) (o : Nat) : Nat := d.m (eo d o)
def th (d : Pl.Dg) (h k : Nat) : Nat := if k = 0 then h else if k = 1 then Pl.nx d h else Pl.nx d (Pl.nx d h)
section
variable {w W W' : World} {dv ev : List Value}
end
end Go.Proofs.YtcaoblilkgajoaaDoor
end
section
namespace Go.Proofs.YtcaoblilkgajoaaDoor
open Go Go.RowKit
theorem RowT.store {w : World} {t t' : TypeId} {A : Option Addr} {n : Nat} {xs : List Value} {g i : Nat} {vs : List Value} (h : RowT w t A n xs) (hr : Row w g t' vs) (hne : t ≠ t') (v : Value) : RowT (w.setCell ⟨g, i, none⟩ v) t A n xs :=
 ⟨h.1, fun hn => let ⟨b, o, cs, fr, e, hb, hc⟩ := h.2 hn; ⟨b, o, cs, fr, e, (Below.heap_setCell w _ v b (fun he => by
   have hr' := hr
   unfold Row at hr'
   have he' : b = g := he
   rw [he', hr'] at hb
   injection hb with hb
   injection hb with _ h4
   exact hne h4.symm)).trans hb, hc⟩⟩
theorem own_rowT {w : World} {base : Nat} {t : TypeId} {A : Option Addr} {n c : Nat} {xs : List Value} (h : w.ownsRow base t 1 (.slice A n c) n xs) : RowT w t A n xs := by
 refine ⟨by simpa using h.1, fun hn => ?_⟩
 rcases h.2 with ⟨_, h2⟩ | ⟨g, cap, cur, h1, _, h3, _, _, _, h5⟩
 ·omega
 ·injection h1 with h1 _ _
  refine ⟨g, 0, cur, (0, 0), h1, h3, fun j u hu => ?_⟩
  rw [Nat.zero_add]
  have hj : j < n := by
   have := (List.getElem?_eq_some_iff.1 hu).1
   have := h.1
   omega
  rw [← h5, List.getElem?_take, if_pos (by omega)] at hu
  rw [← hu]
  simp
def FaceAt (w : World) (v : Value) (l : List Nat) : Prop := ∃ A c, v = .slice A l.length c ∧ RowT w 3 A l.length (l.map (fun k : Nat => Value.int .i64 k))
def Vs (w : World) (vs : List Value) (fs : List (List Nat)) : Prop := vs.length = fs.length ∧ ∀ (i : Nat) l, fs[i]? = some l → ∃ v, vs[i]? = some v ∧ FaceAt w v l
theorem Vs.below {w w' : World} {vs : List Value} {fs : List (List Nat)} (h : Vs w vs fs) (hb : Below w.heap.size w w') : Vs w' vs fs :=
 ⟨h.1, fun i l e => let ⟨v, h1, A, c, h2, h3⟩ := h.2 i l e; ⟨v, h1, A, c, h2, h3.keep hb⟩⟩
theorem Vs.grown {w w' : World} {vs : List Value} {fs : List (List Nat)} {row : Option Nat} {t' : TypeId} (h : Vs w vs fs) (hg : w.grownBy w' row) (hr : ∀ g, row = some g → ∃ cs fr, w.heap[g]? = some (.cells cs t' fr)) (hne : 3 ≠ t') : Vs w' vs fs :=
 ⟨h.1, fun i l e => let ⟨v, h1, A, c, h2, h3⟩ := h.2 i l e; ⟨v, h1, A, c, h2, h3.grown hg hr hne⟩⟩
theorem Vs.store {w : World} {vs : List Value} {fs : List (List Nat)} {g i : Nat} {us : List Value} {t' : TypeId} (h : Vs w vs fs) (hr : Row w g t' us) (hne : 3 ≠ t') (v : Value) : Vs (w.setCell ⟨g, i, none⟩ v) vs fs :=
 ⟨h.1, fun i l e => let ⟨v, h1, A, c, h2, h3⟩ := h.2 i l e; ⟨v, h1, A, c, h2, h3.store hr hne _⟩⟩
theorem FaceAt.ints {w : World} {A : Option Addr} {n c : Nat} {l : List Nat} (h : FaceAt w (.slice A n c) l) : n = l.length ∧ IntsAt w A n (nats l) := by
 obtain ⟨A', c', h1, h2⟩ := h
 injection h1 with h1 h3 h4
 subst h1 h3
 refine ⟨rfl, ?_⟩
 unfold IntsAt
 rw [map_nats]
 exact h2.row
def Far (base : Nat) (vs : List Value) : Prop := ∀ v, v ∈ vs → ∀ g, v.ownBlock = some g → base ≤ g
theorem rowInfo : (Tryd.prog.info? 22).map (fun i => (i.zero, i.size, i.bytes)) = some (some (.slice none 0 0), 1, 24) := by kernel_rfl
end Go.Proofs.YtcaoblilkgajoaaDoor
end
section
namespace Go.Proofs.YtcaoblilkgajoaaDoor
open Go Go.RowKit
theorem mk_self (d : Pl.Dg) : Pl.mk d.sg (nats d.mt) d.lp = d := by
 unfold Pl.mk nats
 rw [List.map_map]
 have : (Int.toNat ∘ fun m : Nat => (m : Int)) = id := by funext x; rfl
 rw [this, List.map_id]
 rfl
theorem vl_of {d : Pl.Dg} : Pl.VL d.sg (nats d.mt) d.lp ↔ Pl.Valid d := by
 constructor
 ·intro h; have := h.1; rwa [mk_self] at this
 ·intro h; exact ⟨by rw [mk_self]; exact h, fun z hz => by unfold nats at hz; obtain ⟨m, _, rfl⟩ := List.mem_map.1 hz; omega, by omega⟩
theorem valid_yes (d : Pl.Dg) (hd : Pl.Valid d) (A B : Option Addr) (cp cq m : Nat) (w : World) (hm : m = 4 * d.n) (hg : DgAt w A B d) :
 Calls Tryd.prog 30 #[.agg #[.slice A d.n cp, .slice B m cq, .int .i64 d.lp]] w fun e w' => e = .returned (.bool true) ∧ Below w.heap.size w w' := by
 have hn := hd.wf.few
 have hl := hd.wf.lp
 refine (valid_any d.sg (nats d.mt) d.lp A B d.n m cp cq w hg.s (by rw [hm]; exact hg.m) (by unfold maxLen; omega) (by unfold maxLen; omega) (by omega)).mono ?_
 rintro e w' ⟨h1, h2⟩
 rw [Pl.vb_true (vl_of.2 hd)] at h1
 exact ⟨h1, h2⟩
end Go.Proofs.YtcaoblilkgajoaaDoor
end
section
namespace Go.Proofs.YtcaoblilkgajoaaDoor
open Go Go.RowKit
attribute [local go_sem ↓] Go.wp_at_zero Go.wp_at_succ
section
variable {w : World} {x0 x1 x2 y0 y1 y2 y3 y4 : Value} {W W' : World}
end
section
variable {w : World} {x0 x1 x2 y0 y1 y2 y3 y4 : Value} {gu gs : Nat} {p0 p1 q0 q1 : Value} {W W' : World}
end
theorem own_base {w : World} {base base' : Nat} {e : TypeId} {v : Value} {n : Nat} {xs : List Value} (h : w.ownsRow base e 1 v n xs) (hle : base' ≤ base) : w.ownsRow base' e 1 v n xs := own_keep h (Below.refl _ _) hle
end Go.Proofs.YtcaoblilkgajoaaDoor
end
section
namespace Go.Proofs.YtcaoblilkgajoaaDoor
open Go Go.RowKit
attribute [local go_sem ↓] Go.wp_at_zero Go.wp_at_succ
theorem RowT.drew {w : World} {t : TypeId} {A : Option Addr} {n : Nat} {xs : List Value} (h : RowT w t A n xs) : RowT w.drew t A n xs := h
section
variable {w W W' : World} {s5 m5 : List Value}
end
section
variable {w : World} {gd gn gr gf g1 c1 n1 g2 c2 n2 base n u0 u1 : Nat} {s5 m5 dv ss : List Value} {lpr : Int} {mt : List Nat} {W W2 : World}
end
end Go.Proofs.YtcaoblilkgajoaaDoor
end
section
namespace Go.Proofs.YtcaoblilkgajoaaDoor
open Go Go.RowKit
def Gl (ps : List Int) (k i : Nat) : List Nat := (List.range k).filter (fun c => decide (Pl.pv ps c = (i : Int)))
theorem Gl_succ (ps : List Int) (k i : Nat) : Gl ps (k + 1) i = Gl ps k i ++ if Pl.pv ps k = (i : Int) then [k] else [] := by
 unfold Gl
 rw [List.range_succ, List.filter_append]
 by_cases h : Pl.pv ps k = (i : Int) <;> simp [List.filter_cons, h]
theorem Gl_len (ps : List Int) (k i : Nat) : (Gl ps k i).length ≤ k := by
 unfold Gl
 have := List.length_filter_le (fun c => decide (Pl.pv ps c = (i : Int))) (List.range k)
 simpa using this
theorem mem_Gl {ps : List Int} {k i c : Nat} : c ∈ Gl ps k i ↔ c < k ∧ Pl.pv ps c = (i : Int) := by unfold Gl; simp
def gv (vs : List Value) (i : Nat) : Value := vs.getD i (.slice none 0 0)
structure Grp (w : World) (g P : Nat) (ps : List Int) (k : Nat) (vs : List Value) (W : World) : Prop where
 len : vs.length = P
 row : Row W g 22 vs
 own : ∀ i, i < P → W.ownsRow (g + 1) 3 1 (gv vs i) (Gl ps k i).length ((Gl ps k i).map (fun k : Nat => Value.int .i64 k))
 ne : ∀ i j, i < P → j < P → i ≠ j → ∀ b, (gv vs i).ownBlock = some b → (gv vs j).ownBlock ≠ some b
 bel : Below w.heap.size w W
 lo : w.heap.size ≤ g
theorem Grp.below {w : World} {g P : Nat} {ps : List Int} {k : Nat} {vs : List Value} {W W' : World} (h : Grp w g P ps k vs W) (hb : Below W.heap.size W W') : Grp w g P ps k vs W' :=
 ⟨h.len, h.row.below hb, fun i hi => own_keep (h.own i hi) hb (Nat.le_refl _), h.ne, h.bel.trans (hb.mono h.bel.size), h.lo⟩
theorem gv_set {vs : List Value} {q : Nat} (hq : q < vs.length) (v : Value) (i : Nat) : gv (vs.set q v) i = if i = q then v else gv vs i := by
 unfold gv
 rw [List.getD_eq_getElem?_getD, List.getD_eq_getElem?_getD, List.getElem?_set]
 by_cases h : q = i
 ·subst h; simp [hq]
 ·rw [if_neg h, if_neg (fun e => h e.symm)]
theorem Grp.put {w : World} {g P : Nat} {ps : List Int} {k q : Nat} {vs : List Value} {W W2 : World} {v' : Value} {g' : Nat} (h : Grp w g P ps k vs W) (hq : q < P) (hp : Pl.pv ps k = (q : Int))
 (own : W2.ownsRow (g + 1) 3 1 v' ((Gl ps k q).length + 1) ((Gl ps k q).map (fun k : Nat => Value.int .i64 k) ++ [.int .i64 (k : Nat)])) (gr : W.grownBy W2 (gv vs q).ownBlock) (hv : v'.ownBlock = some g') (hat : (gv vs q).ownBlock = some g' ∨ g' = W.heap.size) :
 Grp w g P ps (k + 1) (vs.set q v') (W2.setCell ⟨g, q, none⟩ v') := by
 have hql : q < vs.length := by rw [h.len]; exact hq
 have hlt := fun i hi => (h.own i hi).lt
 refine ⟨by rw [List.length_set, h.len], (h.row.grown gr ?_).set q v', fun i hi => ?_, fun i j hi hj hij b e1 e2 => ?_, (h.bel.grown gr h.bel.size (fun b e => by have := (hlt q hq b e).1; have := h.lo; omega)).setCell h.lo _, h.lo⟩
 ·intro e
  have := (hlt q hq g e.symm).1
  omega
 ·rw [gv_set hql, Gl_succ]
  by_cases e : i = q
  ·subst e
   rw [if_pos rfl, if_pos hp]
   refine ownsRow_setCell_below ?_ (by show g < g + 1; omega) _
   simpa using own
  ·rw [if_neg e, if_neg (by omega), List.append_nil]
   refine ownsRow_setCell_below ((h.own i hi).kept gr ?_) (by show g < g + 1; omega) _
   cases hm : (gv vs i).ownBlock with
   | none => exact .inl rfl
   | some b => exact .inr (fun e' => h.ne i q hi hq e b hm e'.symm)
 ·rw [gv_set hql] at e1 e2
  by_cases ei : i = q
  ·rw [if_pos ei, hv] at e1
   injection e1 with e1
   rw [if_neg (by omega)] at e2
   rcases hat with e | e
   ·exact h.ne q j hq hj (by omega) g' e (by rw [e2, e1])
   ·have := (hlt j hj b e2).2
    omega
  ·rw [if_neg ei] at e1
   by_cases ej : j = q
   ·rw [if_pos ej, hv] at e2
    injection e2 with e2
    rcases hat with e | e
    ·exact h.ne i q hi hq ei g' (by rw [e1, e2]) e
    ·have := (hlt i hi b e1).2
     omega
   ·rw [if_neg ej] at e2
    exact h.ne i j hi hj hij b e1 e2
def GraphPost (d : Pl.Dg) (w : World) (e : Ending) (w' : World) : Prop :=
 ∃ (A : Option Addr) (c P : Nat) (ps : List Int) (vs : List Value), e = .returned (.slice A P c) ∧ P ≤ d.n ∧ Pl.LB d ps P ∧ (∀ a, a < d.n → 0 ≤ Pl.pv ps a) ∧ RowT w' 22 A P vs ∧ Vs w' vs ((List.range P).map (Gl ps d.n)) ∧ Below w.heap.size w w' ∧ Far w.heap.size vs
theorem run_rows (n : Nat) (hn : n ≤ 100000) (w : World) : (Instr.makeSlice 52 (.int .i64 (n : Int)) (.int .i64 (n : Int))).run Tryd.prog w = .ok (.slice (some ⟨w.heap.size, 0, none⟩) n n) (w.alloc (.cells (Array.replicate n (Value.slice none 0 0)) 22)) := by
 obtain ⟨i0, hi, hz0, hz1, hz2⟩ := info_parts rowInfo
 have := run_make (P := Tryd.prog) w 52 22 i0 (.slice none 0 0) Tryd.underlying52 hi hz0 .i64 .i64 n n (by omega) (Int.le_refl _) (by rw [hz2]; omega) (by omega)
 rw [hz1, Nat.mul_one, Int.toNat_natCast, show madeCells (Value.cells (.slice none 0 0)) n = (List.replicate n (.slice none 0 0)).toArray from made_rep _ _] at this
 exact this
theorem Row.gv {W : World} {g : Nat} {t : TypeId} {vs : List Value} (h : Row W g t vs) {q : Nat} (hq : q < vs.length) : W.cell? ⟨g, q, none⟩ = some (gv vs q) := by
 rw [h.cell hq]
 unfold Go.Proofs.YtcaoblilkgajoaaDoor.gv
 rw [List.getD_eq_getElem?_getD, List.getElem?_eq_getElem hq]; rfl
theorem range_get {P i : Nat} {l : List Nat} {f : Nat → List Nat} (e : ((List.range P).map f)[i]? = some l) : i < P ∧ l = f i := by
 rw [List.getElem?_map] at e
 by_cases h : i < P
 ·rw [List.getElem?_range h] at e
  injection e with e
  exact ⟨h, e.symm⟩
 ·rw [List.getElem?_eq_none (by simpa using Nat.le_of_not_lt h)] at e
  cases e
theorem Grp.vs {w : World} {g P : Nat} {ps : List Int} {k : Nat} {vs : List Value} {W : World} (h : Grp w g P ps k vs W) : Vs W vs ((List.range P).map (Gl ps k)) := by
 refine ⟨by simp [h.len], fun i l e => ?_⟩
 obtain ⟨hi, rfl⟩ := range_get e
 have ho := h.own i hi
 obtain ⟨A, c, e2⟩ := owns_slice ho
 refine ⟨Go.Proofs.YtcaoblilkgajoaaDoor.gv vs i, ?_, A, c, e2, by rw [e2] at ho; exact own_rowT ho⟩
 unfold Go.Proofs.YtcaoblilkgajoaaDoor.gv
 rw [List.getD_eq_getElem?_getD, List.getElem?_eq_getElem (by rw [h.len]; exact hi)]; rfl
theorem Grp.far {w : World} {g P : Nat} {ps : List Int} {k : Nat} {vs : List Value} {W : World} (h : Grp w g P ps k vs W) : Far w.heap.size vs := fun v hv b hb => by
 obtain ⟨i, hi, e⟩ := List.mem_iff_getElem.1 hv
 have h1 : Go.Proofs.YtcaoblilkgajoaaDoor.gv vs i = v := by unfold Go.Proofs.YtcaoblilkgajoaaDoor.gv; rw [List.getD_eq_getElem?_getD, List.getElem?_eq_getElem hi]; exact e
 have h2 := (h.own i (by rw [← h.len]; exact hi)).lt b (by rw [h1]; exact hb)
 have := h.lo
 omega
set_option maxRecDepth 100000 in
set_option maxHeartbeats 2000000 in
theorem graph_any (d : Pl.Dg) (hd : Pl.Valid d) (A B : Option Addr) (cp cq m : Nat) (w : World) (hm : m = 4 * d.n) (hg : DgAt w A B d) :
 Calls Tryd.prog 78 #[.agg #[.slice A d.n cp, .slice B m cq, .int .i64 d.lp]] w (GraphPost d w) := by
 have hn := hd.wf.few
 have HM := hide hm
 have HG := hide hg
 have B0 := hide (show Below w.heap.size w (w.alloc (.cells #[.slice A d.n cp, .slice B m cq, .int .i64 d.lp] 28)) from (Below.refl _ _).alloc (Nat.le_refl _) _)
 have X0 := hide (show Row (w.alloc (.cells #[.slice A d.n cp, .slice B m cq, .int .i64 d.lp] 28)) w.heap.size 28 [.slice A d.n cp, .slice B m cq, .int .i64 d.lp] from Row.new w _ [_, _, _])
 clear hg
 subst hm
 go_enter Tryd.func78, Tryd.ntmps78
 go_wp2_with fail
 refine (valid_yes d hd A B cp cq _ _ rfl (HG.out.keep B0.out)).mono ?_
 rintro e w1 ⟨rfl, hb1⟩
 have B1 := hide (B0.out.trans (hb1.mono B0.out.size))
 have X1 := hide (X0.out.below hb1)
 obtain ⟨f0, f1, f2, f3⟩ := box3 X1.out
 clear hb1
 go_wp2_with fail
 refine (label_any d hd.wf A B cp cq _ _ (HG.out.keep B1.out)).mono ?_
 rintro e w2 ⟨ps, P, gp, rfl, hlb, hall, hgp, hir, hb2⟩
 have HLB := hide hlb
 have HALL := hide hall
 have hPn := hlb.le
 have HIR := hide hir
 have B2 := hide (B1.out.trans (hb2.mono B1.out.size))
 have hgps := hir.lt
 have hps : ps.length = d.n := hlb.len
 have HPS := hide hps
 clear hlb hall hir hb2 f0 f1 f2 f3 hps
 have hmk := fun W : World => run_rows P (by omega) W
 have H0 := hide (show Grp w w2.heap.size P ps 0 (List.replicate P (.slice none 0 0)) (w2.alloc (.cells (Array.replicate P (Value.slice none 0 0)) 22)) from by
  have hgv : ∀ i, gv (List.replicate P (.slice none 0 0)) i = .slice none 0 0 := fun i => by
   unfold Go.Proofs.YtcaoblilkgajoaaDoor.gv
   rw [List.getD_eq_getElem?_getD, List.getElem?_replicate]
   split <;> rfl
  refine ⟨by simp, ?_, fun i hi => ?_, fun i j hi hj hij b e => ?_, B2.out.alloc B2.out.size _, B2.out.size⟩
  ·have := Row.new w2 22 (List.replicate P (.slice none 0 0))
   simpa using this
  ·rw [hgv]; exact World.ownsRow_nil _ _ _ _
  ·rw [hgv] at e; simp [Value.ownBlock] at e)
 have HI0 := hide (show IRow (w2.alloc (.cells (Array.replicate P (Value.slice none 0 0)) 22)) gp ps from Row.alloc HIR.out _)
 go_wp2
 clear hmk
 obtain ⟨gg, hgg⟩ : ∃ gg, gg = w2.heap.size := ⟨_, rfl⟩
 rw [← hgg] at H0 hgps ⊢
 have HGG := hide hgg
 go_loopg [20] d.n (fun g i wx => ∃ (k : Nat) (vs : List Value), k + g = d.n ∧ i = .int .i64 k ∧ Grp w gg P ps k vs wx ∧ IRow wx gp ps)
 case atStart => exact ⟨0, _, by omega, rfl, by have := H0.out; rw [hgg] at this ⊢; exact this, HI0.out⟩
 case round =>
  clear H0 HI0 HIR hgg HGG
  obtain ⟨k, vs, hkg, rfl, hgr, hir⟩ := hrel
  have HKG := hide hkg
  have hkn : k ≤ d.n := by omega
  have HGR := hide hgr
  have HIR := hide hir
  have hsz := hgr.row.lt
  clear hkg hgr hir
  by_cases hlt : k < d.n
  ·have c1 := HIR.out.cell (i := k) (by rw [HPS.out]; exact hlt)
   have h0 := HALL.out k hlt
   have h1 := (HLB.out.lo k hlt).2
   obtain ⟨q, hq⟩ := Int.eq_ofNat_of_zero_le h0
   rw [hq] at c1 h1
   have HQ := hide hq
   clear hq h0
   have hqP : q < P := by omega
   have hql : q < vs.length := by rw [HGR.out.len]; exact hqP
   have c2 := HGR.out.row.gv hql
   have fr2 := HGR.out.row.free q
   obtain ⟨vq, hvq⟩ : ∃ v, v = gv vs q := ⟨_, rfl⟩
   rw [← hvq] at c2
   have HVQ := hide hvq
   clear hvq
   have iq : (0 : Int) ≤ (q : Int) := by omega
   have jq : (q : Int) < (P : Int) := by omega
   have hgl := Gl_len ps k q
   obtain ⟨i0, hi0, hz0, hz1, hz2⟩ := info_parts intInfo
   have OQ := hide (show wr.ownsRow (gg + 1) 3 1 vq (Gl ps k q).length ((Gl ps k q).map (fun k : Nat => Value.int .i64 k)) by rw [HVQ.out]; exact HGR.out.own q hqP)
   go_wp2_with (at_builtin; refine wpList_append_lies _ (by rfl) _ _ 22 (by rfl) (gg + 1) 3 i0 (.int .i64 0) 1 8 Tryd.underlying22 hi0 hz0 hz1 hz2 rfl (by omega) vq (Gl ps k q).length _ (by rfl) (OQ.out.alloc _) ⟨wr.heap.size, 0, none⟩ 1 1 [.int .i64 (k : Nat)] (by rfl) (by rfl) (one_news wr (.int .i64 (k : Nat))) (by simp [Value.oneCell']) (by omega) (by unfold maxLen; omega) (by omega) (by simp; omega) (wr.heap.size + 1) (by simp) ?_; intro g3 c3 w3 own3 grow3 at3 lt3; have hrow3 := Row.grown (Row.alloc HGR.out.row (.cells #[.int .i64 (k : Nat)] 3)) grow3 (by intro e; have := (OQ.out.lt gg e.symm).1; omega); have cq3 := hrow3.gv hql; have fq3 := hrow3.free q; have OWN3 := hide own3; have GR3 := hide grow3; have AT3 := hide at3; have HROW3 := hide hrow3; clear own3 grow3 at3 hrow3)
   go_roundg (gk - 1)
   case measure => have := HKG.out; omega
   case rel =>
    refine ⟨k + 1, vs.set q (.slice (some ⟨g3, 0, none⟩) ((Gl ps k q).length + 1) c3), by have := HKG.out; omega, by go_num, ?_, ?_⟩
    ·exact Grp.put (HGR.out.below ((Below.refl _ _).alloc (Nat.le_refl _) (.cells #[.int .i64 (k : Nat)] 3))) hqP HQ.out OWN3.out (by rw [← HVQ.out]; exact GR3.out) rfl (by rw [← HVQ.out]; simpa using AT3.out)
    ·refine Row.other (Row.grown (Row.alloc HIR.out _) GR3.out ?_) (by show gp ≠ gg; omega) _
     intro e
     have := (OQ.out.lt gp e.symm).1
     omega
  ·go_wp2
   go_ret
   obtain rfl : k = d.n := by omega
   refine ⟨_, _, P, ps, vs, rfl, hPn, HLB.out, HALL.out, ?_, HGR.out.vs, HGR.out.bel, HGR.out.far⟩
   refine ⟨HGR.out.len, fun _ => ⟨gg, 0, vs.toArray, (0, 0), rfl, HGR.out.row, fun j u hu => ?_⟩⟩
   rw [Nat.zero_add]
   simpa using hu
end Go.Proofs.YtcaoblilkgajoaaDoor
end
section
namespace Go.Proofs.YtcaoblilkgajoaaDoor
open Go Go.RowKit
theorem nats_set (F : List Nat) (y v : Nat) : nats (F.set y v) = (nats F).set y (v : Int) := by unfold nats; rw [List.map_set]
end Go.Proofs.YtcaoblilkgajoaaDoor
end
section
namespace Go.Proofs.YtcaoblilkgajoaaDoor
open Go Go.RowKit
theorem own_row_ne {W : World} {base b n : Nat} {t : TypeId} {v : Value} {xs vs : List Value} (h : W.ownsRow base 3 1 v n xs) (hr : Row W b t vs) (ht : 3 ≠ t) : some b ≠ v.ownBlock := by
 intro e
 obtain ⟨cs, fr, h3⟩ := ownsRow_block h b e.symm
 rw [hr] at h3
 injection h3 with h3
 injection h3 with _ h4
 exact ht h4.symm
section
variable {base : Nat} {w W W' W2 : World} {vS vM v' : Value} {n q : Nat} {lp : Int} {mv : List Value} {ss : List Int} {l : List Nat}
end
end Go.Proofs.YtcaoblilkgajoaaDoor
end
section
namespace Go.Proofs.YtcaoblilkgajoaaDoor
open Go Go.RowKit
attribute [local go_sem ↓] Go.wp_at_zero Go.wp_at_succ
def sb (d : Pl.Dg) (h k : Nat) : Nat := Pl.tn (eo d (th d h k)) 2
theorem nats_len (F : List Nat) : (nats F).length = F.length := by unfold nats; simp
section
variable {w W W' : World} {ge : Nat} {dv mv ev : List Value}
end
section
variable {w W W2 : World} {ge gt gu gr g1 c1 g2 c2 base m n : Nat} {dv mv ev : List Value} {tl : List Int} {ou : List Bool} {ss : List Value} {lp : Int} {L L' : List Nat}
end
def tk (m k : Nat) : List Nat := (List.range m).map (fun j => if j < k then j else 0)
end Go.Proofs.YtcaoblilkgajoaaDoor
end
section
namespace Go.Proofs.YtcaoblilkgajoaaDoor.Pl
variable {N : Nat} {S : Nat → Prop} {r a : Nat → Nat}
def cj (t f : Nat → Nat) (x : Nat) : Nat := t (f (t x))
section
variable {t : Nat → Nat} {h0 h1 h2 p0 p1 p2 u0 u1 u2 v0 v1 v2 : Nat}
end
end Go.Proofs.YtcaoblilkgajoaaDoor.Pl
end
section
namespace Go.Proofs.YtcaoblilkgajoaaDoor.Pl
theorem set_getD (l : List Nat) (a b x : Nat) (ha : a < l.length) : (l.set a b).getD x 0 = if x = a then b else l.getD x 0 := by
 rw [List.getD_eq_getElem?_getD, List.getElem?_set, List.getD_eq_getElem?_getD]
 by_cases h : a = x
 ·subst h; simp [ha]
 ·rw [if_neg h, if_neg (Ne.symm h)]
theorem jn_getD (l : List Nat) (a b x : Nat) (ha : a < l.length) (hb : b < l.length) : ((l.set a b).set b a).getD x 0 = if x = b then a else if x = a then b else l.getD x 0 := by
 rw [set_getD _ _ _ _ (by simpa using hb), set_getD _ _ _ _ ha]
end Go.Proofs.YtcaoblilkgajoaaDoor.Pl
end
section
namespace Go.Proofs.YtcaoblilkgajoaaDoor.Pl
def ex (n : Nat) (a : Nat → Nat) (x : Nat) : Nat := if x < 4 * n then a x else x
end Go.Proofs.YtcaoblilkgajoaaDoor.Pl
end
section
namespace Go.Proofs.YtcaoblilkgajoaaDoor.Pl
theorem wf_by {d' : Dg} (few : d'.n ≤ 64) (len : d'.mt.length = 4 * d'.n) (lp : d'.lp ≤ 64) (sign : ∀ c, c < d'.n → d'.s c = 1 ∨ d'.s c = -1)
 (h : ∀ z, z < 4 * d'.n → d'.m z < 4 * d'.n ∧ d'.m (d'.m z) = z ∧ Pl.out d' z ≠ Pl.out d' (d'.m z)) : Wf d' :=
 ⟨few, len, lp, sign, fun z hz => (h z hz).1, fun z hz e => (h z hz).2.2 (by rw [e]), fun z hz => (h z hz).2.1, fun z hz => (h z hz).2.2⟩
end Go.Proofs.YtcaoblilkgajoaaDoor.Pl
end
