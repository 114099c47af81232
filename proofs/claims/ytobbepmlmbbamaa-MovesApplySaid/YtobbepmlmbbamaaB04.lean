/-
 The texts Ri, Wo, Wp, Wn, Wx, Xb, Xc in one.
-/
import Derived.Test.YtobbepmlmbbamaaB03
import Derived.Test.YtobbepmlmbbamaaB02
import Derived.Outline
import Derived.Deep.DeepCutAuto
import Derived.RegionTactic
import Derived.Laws.MakeOwn
import Derived.Deep.RegionWith
import Derived.Deep.CutBlock
import Derived.Deep.RegionHeld3
import Derived.Deep.DrawnRows
set_option linter.unusedVariables false
set_option linter.unusedSimpArgs false
section
namespace Go.Proofs.Ytobbepmlmbbamaa
open Go Go.RowKit
theorem isO_mm {d : Pl.Dg} (hd : Pl.Wf d) {x : Nat} (hx : x < 4 * d.n) : isO d x = (x % 2 == 1 && d.m x % 2 == 1) := by
 unfold isO ei eo
 split
 ·rfl
 ·rw [hd.inv x hx, Bool.and_comm]
theorem isU_mm {d : Pl.Dg} (hd : Pl.Wf d) {x : Nat} (hx : x < 4 * d.n) : isU d x = (x % 2 == 0 && d.m x % 2 == 0) := by
 unfold isU ei eo
 split
 ·rfl
 ·rw [hd.inv x hx, Bool.and_comm]
theorem per3 {f : Nat → Nat} {h p : Nat} (hp : Pl.Per f h p) (h3 : f (f (f h)) = h) : p = 3 ∨ f h = h := by
 obtain ⟨h0, h1, h2⟩ := hp
 by_cases e : f h = h
 ·exact .inr e
 ·refine .inl ?_
  rcases Nat.lt_trichotomy p 3 with g | g | g
  ·have : p = 1 ∨ p = 2:=by omega
   rcases this with rfl | rfl
   ·exact absurd h1 e
   ·have k : f (f h) = h:=h1
    rw [k] at h3
    exact absurd h3 e
  ·exact g
  ·exact absurd h3 (h2 3 (by omega) g)
theorem is3_per {d : Pl.Dg} {h p : Nat} (hp : Pl.Per (Pl.nx d) h p) : is3 d h ↔ p = 3 ∧ h / 4 ≠ Pl.nx d h / 4 ∧ Pl.nx d h / 4 ≠ Pl.nx d (Pl.nx d h) / 4 ∧ h / 4 ≠ Pl.nx d (Pl.nx d h) / 4 := by
 constructor
 ·rintro ⟨a, b, c, e⟩
  rcases per3 hp a with g | g
  ·exact ⟨g, b, c, e⟩
  ·exact absurd (by show h / 4 = Pl.nx d h / 4; rw [g]) b
 ·rintro ⟨rfl, b, c, e⟩
  exact ⟨hp.2.1, b, c, e⟩
theorem cyc3 (f : Nat → Nat) (h : Nat) : Pl.cyc f h 3 = [h, f h, f (f h)] := rfl
set_option maxRecDepth 100000 in
set_option maxHeartbeats 4000000 in
theorem rtri_any (d : Pl.Dg) (hd : Pl.Wf d) (A B : Option Addr) (cp cq m : Nat) (l : Value) (h : Nat) (w : World) (hm : m = 4 * d.n) (hb : IntsAt w B m (nats d.mt)) (hh : h < 4 * d.n) :
 Calls Try.prog 70 #[.agg #[.slice A d.n cp, .slice B m cq, l], .int .i64 (h : Int)] w fun e w' => e = .returned (.bool (Pl.vb (isT d h))) ∧ Below w.heap.size w w' := by
 have hn:=hd.few
 have HD:=hide hd
 have HM:=hide hm
 have HB:=hide hb
 have X0:=hide (row_at (W := w) (g := w.heap.size) (t := 24) (vs := [.slice A d.n cp, .slice B m cq, l]) rfl)
 have B0:=hide (show Below w.heap.size w (w.alloc (.cells #[.slice A d.n cp, .slice B m cq, l] 24)) from (Below.refl _ _).alloc (Nat.le_refl _) _)
 obtain ⟨p, hpN, hper⟩ := hd.nxb.per (x := h) hh
 have HPER:=hide hper
 have hp0:=hper.1
 clear hm hb hd hper
 go_enter Try.func70, Try.ntmps70
 go_wp2_with fail
 refine (rface_n d HD.out A B d.n m cp cq l h p _ rfl HM.out (HB.out.keep B0.out) hh HPER.out hpN).mono ?_
 rintro e w1 ⟨A5, c5, rfl, own5, hb1⟩
 have X1:=hide (X0.out.below hb1)
 have B1:=hide (B0.out.trans (hb1.mono B0.out.size))
 have FA:=hide (show FaceAt w1 (.slice A5 p c5) (Pl.cyc (Pl.nx d) h p) from ⟨A5, c5, by rw [Pl.cyc_len], by rw [Pl.cyc_len]; exact own_rowT own5⟩)
 clear own5 hb1 X0 B0
 by_cases hp3 : p = 3
 ·subst hp3
  have HT:=hide (is3_per HPER.out)
  obtain ⟨b5, o5, rfl, g0⟩ := nats_at FA.out.ints.2 (k := 0) (by omega)
  obtain ⟨_, _, e1, g1⟩ := nats_at FA.out.ints.2 (k := 1) (by omega)
  injection e1 with e1
  injection e1 with e1 e2
  subst e1; subst e2
  obtain ⟨_, _, e1, g2⟩ := nats_at FA.out.ints.2 (k := 2) (by omega)
  injection e1 with e1
  injection e1 with e1 e2
  subst e1; subst e2
  simp only [cyc3, List.getD_cons_zero, List.getD_cons_succ] at g0 g1 g2
  have hu4 : Pl.nx d h < 4 * d.n:=th_lt HD.out hh 1
  have hv4 : Pl.nx d (Pl.nx d h) < 4 * d.n:=th_lt HD.out hh 2
  have HTH:=hide (show th d h 0 = h ∧ th d h 1 = Pl.nx d h ∧ th d h 2 = Pl.nx d (Pl.nx d h) from ⟨rfl, rfl, rfl⟩)
  obtain ⟨u, hu⟩ : ∃ u, u = Pl.nx d h := ⟨_, rfl⟩
  obtain ⟨v, hv⟩ : ∃ v, v = Pl.nx d (Pl.nx d h) := ⟨_, rfl⟩
  rw [← hv] at g2 hv4 HT HTH
  rw [← hu] at g1 hu4 HT HTH
  clear hu hv
  rw [Nat.add_zero] at g0
  by_cases e1 : h / 4 = u / 4
  ·have HV:=hide (show ¬ isT d h from fun t => (HT.out.1 t.1).2.1 e1)
   have t1 : ((h : Int) / 4 == (u : Int) / 4) = true:=by rw [beq_iff_eq]; omega
   clear e1
   go_wp2_with fail
   go_quiet (fail)
   go_wp2
   go_ret
   exact ⟨ret_bool (Pl.vb_false HV.out).symm, Below.drewN' B1.out _⟩
  ·have t1 : ((h : Int) / 4 == (u : Int) / 4) = false:=by rw [beq_eq_false_iff_ne]; omega
   by_cases e2 : u / 4 = v / 4
   ·have HV:=hide (show ¬ isT d h from fun t => (HT.out.1 t.1).2.2.1 e2)
    have t2 : ((u : Int) / 4 == (v : Int) / 4) = true:=by rw [beq_iff_eq]; omega
    clear e1 e2
    go_wp2_with fail
    go_quiet (fail)
    go_wp2
    go_ret
    exact ⟨ret_bool (Pl.vb_false HV.out).symm, Below.drewN' B1.out _⟩
   ·have t2 : ((u : Int) / 4 == (v : Int) / 4) = false:=by rw [beq_eq_false_iff_ne]; omega
    by_cases e3 : h / 4 = v / 4
    ·have HV:=hide (show ¬ isT d h from fun t => (HT.out.1 t.1).2.2.2 e3)
     have t3 : ((h : Int) / 4 == (v : Int) / 4) = true:=by rw [beq_iff_eq]; omega
     clear e1 e2 e3
     go_wp2_with fail
     go_quiet (fail)
     go_wp2
     go_ret
     exact ⟨ret_bool (Pl.vb_false HV.out).symm, Below.drewN' B1.out _⟩
    ·have t3 : ((h : Int) / 4 == (v : Int) / 4) = false:=by rw [beq_eq_false_iff_ne]; omega
     have H3:=hide (show is3 d h from HT.out.2 ⟨rfl, e1, e2, e3⟩)
     clear e1 e2 e3
     go_wp2_with fail
     go_quiet (fail)
     clear g0 g1 g2 t1 t2 t3
     go_wp2_with fail
     go_loopg [6, 7, 8] 3 (fun g ov un i wx => ∃ j : Nat, j + g = 3 ∧ i = .int .i64 j ∧ ov = .int .i64 (cntO d h j : Nat) ∧ un = .int .i64 (cntU d h j : Nat) ∧ Row wx w.heap.size 24 [.slice A d.n cp, .slice B m cq, l] ∧ FaceAt wx (.slice (some ⟨b5, o5, none⟩) 3 c5) (Pl.cyc (Pl.nx d) h 3) ∧ Below w.heap.size w wx)
     case atStart => exact ⟨0, rfl, rfl, rfl, rfl, X1.out, FA.out, Below.drewN' B1.out _⟩
     case round =>
      clear X1 FA B1
      obtain ⟨j, hjg, rfl, rfl, rfl, hx, hf, hb⟩ := hrel
      have HJ:=hide hjg
      have X:=hide hx
      have FA:=hide hf
      have BL:=hide hb
      have hcO : cntO d h j ≤ 3:=by
       unfold cntO
       have:=List.length_filter_le (fun i => isO d (th d h i)) (List.range j)
       rw [List.length_range] at this
       omega
      have hcU : cntU d h j ≤ 3:=by
       unfold cntU
       have:=List.length_filter_le (fun i => isU d (th d h i)) (List.range j)
       rw [List.length_range] at this
       omega
      have hj3 : j ≤ 3:=by omega
      clear hjg hx hf hb
      obtain ⟨d0, d1, d2, d3⟩ := box3 X.out
      by_cases hlt : j < 3
      ·obtain ⟨_, _, e1, g⟩ := nats_at FA.out.ints.2 (k := j) hlt
       injection e1 with e1
       injection e1 with e1 e2
       subst e1; subst e2
       rw [show (Pl.cyc (Pl.nx d) h 3).getD j 0 = th d h j by
        have : j = 0 ∨ j = 1 ∨ j = 2:=by omega
        rcases this with rfl | rfl | rfl <;> rfl] at g
       have hx4:=th_lt HD.out hh j
       have SO:=hide (cntO_s d h j)
       have SU:=hide (cntU_s d h j)
       obtain ⟨x, hx⟩ : ∃ x, x = th d h j := ⟨_, rfl⟩
       rw [← hx] at g hx4 SO SU
       clear hx
       have EO:=hide (isO_mm HD.out hx4)
       have EU:=hide (isU_mm HD.out hx4)
       obtain ⟨bb, bo, rfl, mc⟩ := mate_at (by rw [← HM.out]; exact HB.out.keep BL.out) hx4
       have hy4:=HD.out.lt x hx4
       obtain ⟨y, hy⟩ : ∃ y, y = d.m x := ⟨_, rfl⟩
       rw [← hy] at mc hy4 EO EU
       clear hy
       have hxm : x < m:=by rw [HM.out]; exact hx4
       obtain ⟨cO, hcO2⟩ : ∃ c, c = cntO d h j := ⟨_, rfl⟩
       obtain ⟨cU, hcU2⟩ : ∃ c, c = cntU d h j := ⟨_, rfl⟩
       rw [← hcO2] at hcO SO ⊢
       rw [← hcU2] at hcU SU ⊢
       clear hcO2 hcU2
       have j0 : (0 : Int) ≤ (j : Int):=by omega
       have j1 : (j : Int) < 3:=by omega
       have x0 : (0 : Int) ≤ (x : Int):=by omega
       have x1 : (x : Int) < (m : Int):=by omega
       have hx2 : x % 2 = 0 ∨ x % 2 = 1:=by omega
       have hy2 : y % 2 = 0 ∨ y % 2 = 1:=by omega
       rcases hx2 with hx2 | hx2 <;> rcases hy2 with hy2 | hy2
       all_goals
        have XX:=hide hx2
        have YY:=hide hy2
        have ex : (x : Int) % 2 = ((x % 2 : Nat) : Int):=by omega
        have ey : (y : Int) % 2 = ((y % 2 : Nat) : Int):=by omega
        rw [hx2] at ex
        rw [hy2] at ey
        clear hx2 hy2
        go_wp2_with fail
        go_quiet (fail)
        go_wp2
        go_roundg (gk - 1)
        case measure => have := HJ.out; omega
        case rel =>
         refine ⟨j + 1, by have := HJ.out; omega, by go_num, ?_, ?_, X.out, FA.out, Below.drewN' BL.out _⟩
         ·rw [SO.out, EO.out, XX.out, YY.out]; first | rfl | go_num
         ·rw [SU.out, EU.out, XX.out, YY.out]; first | rfl | go_num
      ·have hj : j = 3:=by omega
       subst hj
       obtain ⟨cO, hcO2⟩ : ∃ c, c = cntO d h 3 := ⟨_, rfl⟩
       obtain ⟨cU, hcU2⟩ : ∃ c, c = cntU d h 3 := ⟨_, rfl⟩
       have HE:=hide (show isT d h ↔ cO = 1 ∧ cU = 1 by rw [hcO2, hcU2]; exact ⟨fun t => t.2, fun t => ⟨H3.out, t⟩⟩)
       rw [← hcO2] at hcO ⊢
       rw [← hcU2] at hcU ⊢
       clear hcO2 hcU2
       by_cases q1 : cO = 1
       ·have t1 : ((cO : Int) == 1) = true:=by rw [beq_iff_eq]; omega
        by_cases q2 : cU = 1
        ·have t2 : ((cU : Int) == 1) = true:=by rw [beq_iff_eq]; omega
         have HV:=hide (HE.out.2 ⟨q1, q2⟩)
         clear q1 q2
         go_wp2
         go_ret
         exact ⟨ret_bool (Pl.vb_true HV.out).symm, BL.out⟩
        ·have t2 : ((cU : Int) == 1) = false:=by rw [beq_eq_false_iff_ne]; omega
         have HV:=hide (fun t => q2 (HE.out.1 t).2)
         clear q1 q2
         go_wp2
         go_ret
         exact ⟨ret_bool (Pl.vb_false HV.out).symm, BL.out⟩
       ·have t1 : ((cO : Int) == 1) = false:=by rw [beq_eq_false_iff_ne]; omega
        have HV:=hide (fun t => q1 (HE.out.1 t).1)
        clear q1
        go_wp2
        go_ret
        exact ⟨ret_bool (Pl.vb_false HV.out).symm, BL.out⟩
 ·have t1 : ((p : Int) != 3) = true:=by rw [bne_iff_ne]; omega
  have HV:=hide (show ¬ isT d h from fun t => hp3 ((is3_per HPER.out).1 t.1).1)
  clear hp3
  go_wp2_with fail
  go_quiet (fail)
  go_wp2
  go_ret
  exact ⟨ret_bool (Pl.vb_false HV.out).symm, Below.drewN' B1.out _⟩
end Go.Proofs.Ytobbepmlmbbamaa
end
section
namespace Go.Proofs.Ytobbepmlmbbamaa
open Go Go.RowKit
def plc (c f s : Nat) : Nat := 4 * c + (s + 4 - f) % 4
theorem place_any (c f s : Nat) (w : World) (hc : c ≤ 1000) (hf : f < 4) (hs : s < 4) :
 Calls Try.prog 87 #[.int .i64 (c : Int), .int .i64 (f : Int), .int .i64 (s : Int)] w fun e w' => e = .returned (.int .i64 (plc c f s : Nat)) ∧ w' = w := by
 go_enter Try.func87, Try.ntmps87
 go_wp2
 go_ret
 exact ⟨ret_int (by unfold plc; omega), rfl⟩
theorem place_i (c f s : Int) (w : World) (hc : 0 ≤ c ∧ c ≤ 1000) (hf : 0 ≤ f ∧ f < 4) (hs : 0 ≤ s ∧ s < 4) :
 Calls Try.prog 87 #[.int .i64 c, .int .i64 f, .int .i64 s] w fun e w' => e = .returned (.int .i64 (plc c.toNat f.toNat s.toNat : Nat)) ∧ w' = w := by
 obtain ⟨a, rfl⟩ := Int.eq_ofNat_of_zero_le hc.1
 obtain ⟨b, rfl⟩ := Int.eq_ofNat_of_zero_le hf.1
 obtain ⟨k, rfl⟩ := Int.eq_ofNat_of_zero_le hs.1
 exact place_any a b k w (by omega) (by omega) (by omega)
def fwd (d : Pl.Dg) (x : Int) : Bool := if x = -1 then true else if 0 ≤ x then Pl.out d x.toNat else false
theorem forward_any (d : Pl.Dg) (A B : Option Addr) (cp q cq : Nat) (l : Value) (x : Int) (w : World) (hx : x < 4 * (d.n : Int)) (hn : d.n ≤ 1000) (hs : IntsAt w A d.n d.sg) :
 Calls Try.prog 123 #[.agg #[.slice A d.n cp, .slice B q cq, l], .int .i64 x] w fun e w' => e = .returned (.bool (fwd d x)) ∧ Below w.heap.size w w' := by
 have b0 : Below w.heap.size w (w.alloc (.cells #[.slice A d.n cp, .slice B q cq, l] 24)):=(Below.refl _ _).alloc (Nat.le_refl _) _
 have B0:=hide b0
 have HS:=hide hs
 clear b0 hs
 by_cases h1 : x = -1
 ·subst h1
  go_enter Try.func123, Try.ntmps123
  go_wp2
  go_ret
  exact ⟨rfl, B0.out⟩
 ·have t1 : (x == -1) = false:=by rw [beq_eq_false_iff_ne]; exact h1
  have H1:=hide h1
  clear h1
  by_cases h2 : 0 ≤ x
  ·obtain ⟨k, rfl⟩ := Int.eq_ofNat_of_zero_le h2
   have hk : k < 4 * d.n:=by omega
   have t2 : decide (0 ≤ (k : Int)) = true:=by simp
   go_enter Try.func123, Try.ntmps123
   go_wp2_with fail
   refine (out2_n d A B d.n cp q cq l k _ rfl hk hn (HS.out.keep B0.out)).mono ?_
   rintro e w1 ⟨rfl, hb1⟩
   have B1:=hide (B0.out.trans (hb1.mono B0.out.size))
   clear hb1
   have e1 : fwd d (k : Int) = Pl.out d k:=by unfold fwd; rw [if_neg H1.out, if_pos h2, Int.toNat_natCast]
   have E1:=hide e1
   clear e1 t1 t2
   go_wp2
   go_ret
   exact ⟨by rw [E1.out]; rfl, B1.out⟩
  ·have t2 : decide (0 ≤ x) = false:=by simpa using h2
   have e1 : fwd d x = false:=by unfold fwd; rw [if_neg H1.out, if_neg h2]
   have E1:=hide e1
   clear e1 h2
   go_enter Try.func123, Try.ntmps123
   go_wp2
   go_ret
   exact ⟨by rw [E1.out]; rfl, B0.out⟩
end Go.Proofs.Ytobbepmlmbbamaa
end
section
namespace Go.Proofs.Ytobbepmlmbbamaa
open Go Go.RowKit
def sheetV (A B L R : Option Addr) (n m : Nat) (lp : Int) (cp cq cl cr : Nat) : Value := .agg #[.slice A n cp, .slice B m cq, .int .i64 lp, .slice L m cl, .slice R n cr]
def nearB (F R : List Nat) (d : Pl.Dg) (x y : Nat) : Bool := (F.getD x 0 == F.getD y 0 || R.getD (x / 4) 0 != R.getD (y / 4) 0) && d.m x != y
structure ShAt (w : World) (A B L R : Option Addr) (d : Pl.Dg) (F P : List Nat) : Prop where
 dg : DgAt w A B d
 l : IntsAt w L (4 * d.n) (nats F)
 p : IntsAt w R d.n (nats P)
theorem ShAt.keep {w w' : World} {A B L R : Option Addr} {d : Pl.Dg} {F P : List Nat} (h : ShAt w A B L R d F P) (hb : Below w.heap.size w w') : ShAt w' A B L R d F P := ⟨h.dg.keep hb, h.l.keep hb, h.p.keep hb⟩
set_option maxRecDepth 100000 in
set_option maxHeartbeats 2000000 in
theorem near_any (d : Pl.Dg) (F P : List Nat) (A B L R : Option Addr) (cp cq cl cr m x y : Nat) (w : World) (hm : m = 4 * d.n) (hs : ShAt w A B L R d F P) (hn : d.n ≤ 64) (hx : x < 4 * d.n) (hy : y < 4 * d.n) :
 Calls Try.prog 114 #[sheetV A B L R d.n m d.lp cp cq cl cr, .int .i64 (x : Int), .int .i64 (y : Int)] w fun e w' => e = .returned (.bool (nearB F P d x y)) ∧ Below w.heap.size w w' := by
 unfold sheetV
 have b0 : Below w.heap.size w (w.alloc (.cells #[.slice A d.n cp, .slice B m cq, .int .i64 d.lp, .slice L m cl, .slice R d.n cr] 64)):=(Below.refl _ _).alloc (Nat.le_refl _) _
 obtain ⟨W, hW⟩ : ∃ W, W = w.alloc (.cells #[.slice A d.n cp, .slice B m cq, .int .i64 d.lp, .slice L m cl, .slice R d.n cr] 64) := ⟨_, rfl⟩
 have BX:=hide (show Row W w.heap.size 64 [.slice A d.n cp, .slice B m cq, .int .i64 d.lp, .slice L m cl, .slice R d.n cr] by rw [hW]; exact Row.new w _ [_, _, _, _, _])
 rw [← hW] at b0
 have B0:=hide b0
 have HS:=hide (hs.keep b0)
 have HM:=hide hm
 have HW:=hide hW
 clear b0 hs hW
 obtain ⟨b1, o1, rfl, c1⟩ := nats_at HS.out.l (k := x) hx
 obtain ⟨b1', o1', e1, c2⟩ := nats_at HS.out.l (k := y) hy
 injection e1 with e1
 injection e1 with e11 e12
 subst e11
 subst e12
 obtain ⟨b2, o2, rfl, c3⟩ := nats_at HS.out.p (k := x / 4) (by omega)
 obtain ⟨b2', o2', e2, c4⟩ := nats_at HS.out.p (k := y / 4) (by omega)
 injection e2 with e2
 injection e2 with e21 e22
 subst e21
 subst e22
 obtain ⟨b3, o3, rfl, c5⟩ := mate_at HS.out.dg.m (k := x) hx
 have ix : (0 : Int) ≤ (x : Int):=by omega
 have iy : (0 : Int) ≤ (y : Int):=by omega
 have jx : (x : Int) < (m : Int):=by omega
 have jy : (y : Int) < (m : Int):=by omega
 have kx : (0 : Int) ≤ (x : Int) / 4:=by omega
 have ky : (0 : Int) ≤ (y : Int) / 4:=by omega
 have lx : (x : Int) / 4 < (d.n : Int):=by omega
 have ly : (y : Int) / 4 < (d.n : Int):=by omega
 clear hm
 obtain ⟨p, hp⟩ : ∃ p, p = F.getD x 0 := ⟨_, rfl⟩
 obtain ⟨q, hq⟩ : ∃ q, q = F.getD y 0 := ⟨_, rfl⟩
 obtain ⟨r, hr⟩ : ∃ r, r = P.getD (x / 4) 0 := ⟨_, rfl⟩
 obtain ⟨s, hss⟩ : ∃ s, s = P.getD (y / 4) 0 := ⟨_, rfl⟩
 obtain ⟨u, hu⟩ : ∃ u, u = d.m x := ⟨_, rfl⟩
 have E:=hide (show nearB F P d x y = ((p == q || r != s) && u != y) by unfold nearB; rw [hp, hq, hr, hss, hu])
 rw [← hp] at c1
 rw [← hq] at c2
 rw [← hr] at c3
 rw [← hss] at c4
 rw [← hu] at c5
 clear hp hq hr hss hu
 go_enter Try.func114, Try.ntmps114
 go_wp2_with fail
 rw [← HW.out]
 obtain ⟨f0, f1, f2, f3, f4, f5⟩ := box5 BX.out
 by_cases h1 : p = q
 ·have E2:=hide (show nearB F P d x y = (u != y) by rw [E.out, h1]; simp)
  have t1 : ((p : Int) == (q : Int)) = true:=by rw [beq_iff_eq]; omega
  have E3:=hide (show (((u : Nat) : Int) != ((y : Nat) : Int)) = (u != y) by rw [Bool.eq_iff_iff]; simp; omega)
  clear h1
  go_wp2_with fail
  go_quiet (fail)
  go_wp2
  go_ret
  refine ⟨?_, below_drewN B0.out _⟩
  rw [E2.out]
  exact ret_bool E3.out
 ·have t1 : ((p : Int) == (q : Int)) = false:=by rw [beq_eq_false_iff_ne]; omega
  by_cases h2 : r = s
  ·have E2:=hide (show nearB F P d x y = false by rw [E.out, h2]; simp [h1])
   have t2 : ((r : Int) != (s : Int)) = false:=by rw [bne_eq_false_iff_eq]; omega
   clear h1 h2
   go_wp2_with fail
   go_quiet (fail)
   go_wp2
   go_ret
   refine ⟨?_, below_drewN B0.out _⟩
   rw [E2.out]
   rfl
  ·have E2:=hide (show nearB F P d x y = (u != y) by rw [E.out]; simp [h1, h2])
   have t2 : ((r : Int) != (s : Int)) = true:=by rw [bne_iff_ne]; omega
   have E3:=hide (show (((u : Nat) : Int) != ((y : Nat) : Int)) = (u != y) by rw [Bool.eq_iff_iff]; simp; omega)
   clear h1 h2
   go_wp2_with fail
   go_quiet (fail)
   go_wp2
   go_ret
   refine ⟨?_, below_drewN B0.out _⟩
   rw [E2.out]
   exact ret_bool E3.out
end Go.Proofs.Ytobbepmlmbbamaa
end
section
namespace Go.Proofs.Ytobbepmlmbbamaa
open Go Go.RowKit
attribute [local go_sem ↓] Go.wp_at_zero Go.wp_at_succ
theorem below8 {w W : World} (h : Below w.heap.size w W) (y0 y1 y2 z0 z1 z2 z3 z4 : Value) :
 Below w.heap.size w ((((((((W.setCell ⟨w.heap.size + 1 + 1, 0, none⟩ y0).setCell ⟨w.heap.size + 1 + 1, 1, none⟩ y1).setCell ⟨w.heap.size + 1 + 1, 2, none⟩ y2).setCell ⟨w.heap.size + 1 + 1 + 1, 0, none⟩ z0).setCell ⟨w.heap.size + 1 + 1 + 1, 1, none⟩ z1).setCell ⟨w.heap.size + 1 + 1 + 1, 2, none⟩ z2).setCell ⟨w.heap.size + 1 + 1 + 1, 3, none⟩ z3).setCell ⟨w.heap.size + 1 + 1 + 1, 4, none⟩ z4) :=
 (((((((h.setCell (by show _ ≤ w.heap.size + 1 + 1; omega) _).setCell (by show _ ≤ w.heap.size + 1 + 1; omega) _).setCell (by show _ ≤ w.heap.size + 1 + 1; omega) _).setCell (by show _ ≤ w.heap.size + 1 + 1 + 1; omega) _).setCell (by show _ ≤ w.heap.size + 1 + 1 + 1; omega) _).setCell (by show _ ≤ w.heap.size + 1 + 1 + 1; omega) _).setCell (by show _ ≤ w.heap.size + 1 + 1 + 1; omega) _).setCell (by show _ ≤ w.heap.size + 1 + 1 + 1; omega) _
theorem one_ints (W : World) (c : Nat) : IntsAt (W.alloc (.cells #[.int .i64 (c : Int)] 3)).drew (some ⟨W.heap.size, 0, none⟩) 1 (nats [c]) := by
 refine IntsAt.drew ⟨rfl, fun _ => ⟨_, 0, rfl, fun j u hu => ?_⟩⟩
 match j, hu with
 | 0, hu => simp [nats] at hu; subst hu; exact (Lib.cell_of_heap (heap_alloc_new W _) 0).trans rfl
theorem one_ints' (W : World) (c : Nat) {g : Nat} (h : g = W.heap.size) : IntsAt (W.alloc (.cells #[.int .i64 (c : Int)] 3)) (some ⟨g, 0, none⟩) 1 (nats [c]) := by
 subst h
 exact one_ints W c
theorem OwnN.alloc {w : World} {base g n c : Nat} {l : List Nat} (h : OwnN w base g n c l) (o : Obj) : OwnN (w.alloc o) base g n c l := World.ownsRow.alloc h o
theorem OwnN.caps {w : World} {base g n c : Nat} {l : List Nat} (h : OwnN w base g n c l) : n ≤ c ∧ c ≤ maxLen := by
 rcases h.2 with ⟨h1, h2⟩ | ⟨g', cap, cur, h1, _, _, h4, h5, _⟩
 ·injection h1 with h1; injection h1
 ·injection h1 with _ _ h3
  subst h3
  exact ⟨h4, h5⟩
theorem own8 {w W : World} {base : Nat} {v : Value} {n : Nat} {xs : List Value} (h : W.ownsRow base 3 1 v n xs) (hb : w.heap.size + 1 + 1 + 1 < base) (y0 y1 y2 z0 z1 z2 z3 z4 : Value) :
 ((((((((W.setCell ⟨w.heap.size + 1 + 1, 0, none⟩ y0).setCell ⟨w.heap.size + 1 + 1, 1, none⟩ y1).setCell ⟨w.heap.size + 1 + 1, 2, none⟩ y2).setCell ⟨w.heap.size + 1 + 1 + 1, 0, none⟩ z0).setCell ⟨w.heap.size + 1 + 1 + 1, 1, none⟩ z1).setCell ⟨w.heap.size + 1 + 1 + 1, 2, none⟩ z2).setCell ⟨w.heap.size + 1 + 1 + 1, 3, none⟩ z3).setCell ⟨w.heap.size + 1 + 1 + 1, 4, none⟩ z4).ownsRow base 3 1 v n xs :=
 ownsRow_setCell_below (ownsRow_setCell_below (ownsRow_setCell_below (ownsRow_setCell_below (ownsRow_setCell_below (ownsRow_setCell_below (ownsRow_setCell_below (ownsRow_setCell_below h (by show w.heap.size + 1 + 1 < base; omega) _) (by show w.heap.size + 1 + 1 < base; omega) _) (by show w.heap.size + 1 + 1 < base; omega) _) (by show w.heap.size + 1 + 1 + 1 < base; omega) _) (by show w.heap.size + 1 + 1 + 1 < base; omega) _) (by show w.heap.size + 1 + 1 + 1 < base; omega) _) (by show w.heap.size + 1 + 1 + 1 < base; omega) _) (by show w.heap.size + 1 + 1 + 1 < base; omega) _
theorem closed_yes (base g n cap a b : Nat) (l : List Nat) (w : World) (h : OwnN w base g n cap l) (ha : a < n) (hb : b < n) (hn : n ≤ 100000) (hl : ∀ k, k < n → l.getD k 0 < n) (hy : l.getD a 0 = b) :
 Calls Try.prog 81 #[.slice (some ⟨g, 0, none⟩) n cap, .int .i64 (a : Int), .int .i64 (b : Int)] w fun e w' => e = .returned (.int .i64 1) ∧ OwnN w' base g n cap l ∧ w.grownBy w' (some g) := by
 refine (closed_any base g n cap a b l w h ha hb hn hl).mono ?_
 rintro e w' ⟨h1, h2, h3⟩
 rw [if_pos hy] at h1 h2
 exact ⟨h1, h2, h3⟩
theorem closed_no (base g n cap a b : Nat) (l : List Nat) (w : World) (h : OwnN w base g n cap l) (ha : a < n) (hb : b < n) (hn : n ≤ 100000) (hl : ∀ k, k < n → l.getD k 0 < n) (hy : ¬ l.getD a 0 = b) :
 Calls Try.prog 81 #[.slice (some ⟨g, 0, none⟩) n cap, .int .i64 (a : Int), .int .i64 (b : Int)] w fun e w' => e = .returned (.int .i64 0) ∧ OwnN w' base g n cap (jn l (l.getD a 0) (l.getD b 0)) ∧ w.grownBy w' (some g) := by
 refine (closed_any base g n cap a b l w h ha hb hn hl).mono ?_
 rintro e w' ⟨h1, h2, h3⟩
 rw [if_neg hy] at h1 h2
 exact ⟨h1, h2, h3⟩
set_option maxRecDepth 100000 in
set_option maxHeartbeats 4000000 in
theorem uncurl_any (d : Pl.Dg) (hd : Pl.Wf d) (A B : Option Addr) (cp cq c : Nat) (k y sg : Int) (ov : Bool) (w : World) (hg : DgAt w A B d) (hc : c < d.n) :
 Calls Try.prog 48 #[.agg #[.slice A d.n cp, .slice B (4 * d.n) cq, .int .i64 d.lp], .agg #[.int .i64 k, .int .i64 (c : Int), .int .i64 y, .int .i64 sg, .bool ov]] w (UncPost d c w) := by
 have hn:=hd.few
 have hlp:=hd.lp
 obtain ⟨m, hm⟩ : ∃ m, m = 4 * d.n := ⟨_, rfl⟩
 have HG:=hide hg
 clear hg
 rw [← hm]
 have HM:=hide hm
 clear hm
 obtain ⟨x0, x1, x2, x3, b0, s0⟩ := boxes4 w (.slice A d.n cp) (.slice B m cq) (.int .i64 d.lp) (.int .i64 k) (.int .i64 (c : Int)) (.int .i64 y) (.int .i64 sg) (.bool ov)
 unfold W4 at x0 x1 x2 x3 b0 s0
 have X0:=hide x0
 have X1:=hide x1
 have X2:=hide x2
 have X3:=hide x3
 have B0:=hide b0
 have S0:=hide s0
 clear x0 x1 x2 x3 b0 s0
 go_enter Try.func48, Try.ntmps48
 go_wp2_with fail
 refine (kink_any d hd A B cp cq m c _ HM.out (HG.out.keep B0.out) hc).mono ?_
 rintro e w1 ⟨rfl, hb1⟩
 have Y0:=hide (X0.out.below hb1)
 have Y1:=hide (X1.out.below hb1)
 have Y2:=hide (X2.out.below hb1)
 have Y3:=hide (X3.out.below hb1)
 have B1:=hide (B0.out.trans (hb1.mono B0.out.size))
 have hsz : w.heap.size + 4 ≤ w1.heap.size:=by have := hb1.size; have := S0.out; omega
 clear X0 X1 X2 X3 B0 S0 hb1
 obtain ⟨f0, f1, f2, f3⟩ := box3 Y0.out
 obtain ⟨m0, m1, m2, m3, m4, m5⟩ := box5 Y1.out
 obtain ⟨p0, p1, p2, p3⟩ := box3 Y2.out
 obtain ⟨q0, q1, q2, q3, q4, q5⟩ := box5 Y3.out
 by_cases hK : d.m (kk d c) / 4 = c
 ·rw [Pl.vb_true (show isK d c from hK)]
  unfold kinkE
  rw [if_pos rfl]
  have HK:=hide hK
  clear hK
  have ha1:=kA_lt (d := d) hc
  have hb1:=kB_lt hd hc
  unfold kA at ha1
  unfold kB at hb1
  obtain ⟨a, ha⟩ : ∃ a, a = Pl.tn (kk d c) 2 := ⟨_, rfl⟩
  obtain ⟨b, hb⟩ : ∃ b, b = Pl.tn (d.m (kk d c)) 2 := ⟨_, rfl⟩
  rw [← ha, ← hb]
  rw [← ha] at ha1
  rw [← hb] at hb1
  have HA:=hide (show a = kA d c from ha)
  have HB:=hide (show b = kB d c from hb)
  clear ha hb
  have hml : d.mt.length = m:=by have := hd.len; have := HM.out; omega
  have HML:=hide hml
  have ham : a < m:=by have := HM.out; omega
  have hbm : b < m:=by have := HM.out; omega
  have hm1 : 0 < m:=by omega
  have hm2 : m ≤ 256:=by have := HM.out; omega
  have HLT:=hide (show ∀ k, k < m → d.mt.getD k 0 < m from fun k hk => by
   rw [getD_m (by rw [HML.out]; exact hk)]
   have:=hd.lt k (by have := HM.out; omega)
   have:=HM.out
   omega)
  have HGA:=hide (show d.mt.getD a 0 = d.m a from getD_m (by rw [HML.out]; exact ham))
  have HGM:=hide (show IntsAt w1 B m (nats d.mt) by rw [HM.out]; exact (HG.out.keep B1.out).m)
  clear hml
  obtain ⟨i0, hi0, hz0, hz1, hz2⟩ := info_parts intInfo
  go_wp2_with (at_builtin; refine wpList_append_ints _ rfl _ _ 22 rfl w1.heap.size 3 i0 (.int .i64 0) 8 Try.underlying22 hi0 hz0 hz1 hz2 rfl (.slice none 0 0) 0 [] (by rfl) (World.ownsRow_nil _ _ _ _) B m cq (nats d.mt) (by rfl) HGM.out (by unfold maxLen; omega) (by omega) (Nat.le_refl _) ?_; intro v2 w2 own2 grow2)
  simp only [Nat.zero_add, List.nil_append] at own2
  obtain ⟨A2, c2, rfl⟩ := owns_slice own2
  obtain ⟨g2, rfl, lo2, hi2⟩ := owns_pos hm1 own2
  have OWN2:=hide (show OwnN w2 w1.heap.size g2 m c2 d.mt by unfold OwnN; rw [← map_nats]; exact own2)
  have GR2:=hide grow2
  clear own2 grow2
  have Z0:=hide (Y0.out.grown GR2.out (by simp [Value.ownBlock]))
  have Z1:=hide (Y1.out.grown GR2.out (by simp [Value.ownBlock]))
  have Z2:=hide (Y2.out.grown GR2.out (by simp [Value.ownBlock]))
  have Z3:=hide (Y3.out.grown GR2.out (by simp [Value.ownBlock]))
  have B2:=hide (B1.out.grown GR2.out B1.out.size (fun k hk => by simp [Value.ownBlock] at hk))
  have hs2:=GR2.out.size
  clear f0 f1 f2 f3 m0 m1 m2 m3 m4 m5 p0 p1 p2 p3 q0 q1 q2 q3 q4 q5 Y0 Y1 Y2 Y3
  have HG2:=hide (HG.out.keep B2.out)
  by_cases hcl : d.m a = b
  ·have HC:=hide (show d.mt.getD a 0 = b by rw [HGA.out]; exact hcl)
   have HCL:=hide hcl
   clear hcl
   obtain ⟨f0, f1, f2, f3⟩ := box3 Z0.out
   have hwr : IntKind.i64.wrap ((d.lp : Int) + 1) = (d.lp : Int) + 1:=IntWalk.i64_in _ (by omega)
   go_region_held3 (fun w' => w'.cell? ⟨w.heap.size, 2, none⟩ = some (.int .i64 (d.lp : Int))) (first | go_keep | assumption)
    (first
      | (go_at_call 81
         refine Calls.mono (closed_yes w1.heap.size g2 m c2 a b d.mt _ ?_ ham hbm (by omega) HLT.out HC.out) ?_
         ·exact OwnN.drew' rfl OWN2.out
         rintro e w3 ⟨rfl, own3, gr3⟩
         obtain ⟨_, _, h2, _⟩ := box3 ((Z0.out.drew).grown gr3 (by intro h; injection h; omega))
         have OWN3:=hide own3
         have GR3:=hide gr3
         clear own3 gr3))
   clear hwr f0 f1 f2 f3 h2
   have V0:=hide ((Z0.out.drew).grown GR3.out (by intro h; injection h; omega))
   have V1:=hide ((Z1.out.drew).grown GR3.out (by intro h; injection h; omega))
   have V2:=hide ((Z2.out.drew).grown GR3.out (by intro h; injection h; omega))
   have V3:=hide ((Z3.out.drew).grown GR3.out (by intro h; injection h; omega))
   have B3:=hide ((B2.out.drew).grown GR3.out (B2.out.drew).size (fun k hk => by injection hk with hk; omega))
   have hs3 : w.heap.size + 4 ≤ w3.heap.size:=by have := GR3.out.size; have : w2.drew.heap.size = w2.heap.size := rfl; omega
   have l1 : w.heap.size < w3.heap.size:=by omega
   have l2 : w.heap.size + 1 < w3.heap.size:=by omega
   have l3 : w.heap.size + 1 + 1 < w3.heap.size:=by omega
   have l4 : w.heap.size + 1 + 1 + 1 < w3.heap.size:=by omega
   obtain ⟨f0, f1, f2, f3⟩ := box3 V0.out
   obtain ⟨m0, m1, m2, m3, m4, m5⟩ := box5 V1.out
   obtain ⟨p0, p1, p2, p3⟩ := box3 V2.out
   obtain ⟨q0, q1, q2, q3, q4, q5⟩ := box5 V3.out
   by_cases hfull : 64 < d.lp + 1
   ·have hfu : (64 : Int) < (d.lp : Int) + 1:=by omega
    go_wp2
    refine bodyPost_ret (v := .tuple #[nilD, nilM, .int .i64 5]) ?_ rfl ?_
    ·obtain ⟨e0, e1, e2, e3, e4, e5, e6, e7⟩ := fin8 V2.out V3.out rfl rfl (by omega) (.slice none 0 0) (.slice none 0 0) (.int .i64 0) (.int .i64 0) (.int .i64 0) (.int .i64 0) (.int .i64 0) (.bool false)
     unfold nilD nilM
     simp [results, Try.results48, go_sem, e0, e1, e2, e3, e4, e5, e6, e7]
    ·have e6 : uncC d c = 5:=by unfold uncC; rw [if_pos HK.out, ← HA.out, ← HB.out, if_pos HCL.out, if_pos hfull]
     refine ⟨fun _ => by rw [e6]; exact rfl, fun h => absurd h (by rw [e6]; decide), below8 B3.out _ _ _ _ _ _ _ _⟩
   ·have hfu : (d.lp : Int) + 1 ≤ 64:=by omega
    have t3 : ((d.lp : Int) + 1 == (d.lp : Int)) = false:=by rw [beq_eq_false_iff_ne]; omega
    have HG3:=hide (HG.out.keep B3.out)
    obtain ⟨ab, ao, rfl, hcs⟩ := sign_at HG3.out.s hc
    go_wp2_with fail
    obtain ⟨W5, hW5⟩ : ∃ W5 : World, W5 = w3.alloc (.cells #[.int .i64 1, .int .i64 (-1), .int .i64 0, .int .i64 (d.s c), .bool ((a : Int) % 2 == 1)] 28) := ⟨_, rfl⟩
    rw [← hW5]
    obtain ⟨bb, hbb⟩ : ∃ bb, bb = ((a : Int) % 2 == 1) := ⟨_, rfl⟩
    have HBB:=hide hbb
    rw [← hbb] at hW5 ⊢
    clear hbb
    obtain ⟨gi, hgi⟩ : ∃ gi, gi = w3.heap.size := ⟨_, rfl⟩
    rw [← hgi]
    have HU:=hide (show UC w gi (.slice (some ⟨ab, ao, none⟩) d.n cp) (.slice B m cq) (.int .i64 (d.lp : Int)) (.int .i64 1) (.int .i64 (-1)) (.int .i64 0) (.int .i64 (d.s c)) (.bool bb) W5 by
     rw [hW5]
     exact ⟨V0.out.alloc _, row_at (vs := [.int .i64 1, .int .i64 (-1), .int .i64 0, .int .i64 (d.s c), .bool bb]) hgi, ⟨_, V2.out.alloc _, rfl⟩, ⟨_, V3.out.alloc _, rfl⟩, B3.out.alloc (by omega) _, by omega⟩)
    obtain ⟨LL, hLL⟩ : ∃ LL, LL = d.mt := ⟨_, rfl⟩
    have HMo:=hide (show OwnN W5 w1.heap.size g2 m c2 LL by rw [hW5, hLL]; exact OWN3.out.alloc _)
    have HLE:=hide (show ∀ k, LL.getD k 0 ≤ 1000 from fun k => by rw [hLL]; exact Nat.le_trans (getD_le hd k) (by omega))
    have HG5:=hide (show DgAt W5 (some ⟨ab, ao, none⟩) B d from HG.out.keep HU.out.bel)
    have HLL:=hide (show LL = unM d c by unfold unM; rw [← HA.out, ← HB.out, if_pos HCL.out, hLL])
    have HE0:=hide (show uncC d c = 0 by unfold uncC; rw [if_pos HK.out, ← HA.out, ← HB.out, if_pos HCL.out, if_neg hfull])
    clear hW5 hgi hLL f0 f1 f2 f3 m0 m1 m2 m3 m4 m5 p0 p1 p2 p3 q0 q1 q2 q3 q4 q5 hcs t3 l1 l2 l3 l4
    have HCAP:=hide HMo.out.caps
    have KS:=hide (IntsAt.drew ((HG5.out.s).alloc (.cells #[.int .i64 (c : Int)] 3)))
    have KM:=hide (OwnN.ints (OwnN.drew' rfl (HMo.out.alloc (.cells #[.int .i64 (c : Int)] 3))))
    have KG:=hide (one_ints W5 c)
    go_region_held3 (fun w' => w'.cell? ⟨w.heap.size, 0, none⟩ = some (.slice (some ⟨ab, ao, none⟩) d.n cp) ∧ w'.cell? ⟨gi, 0, none⟩ = some (.int .i64 1) ∧ w'.cell? ⟨gi, 1, none⟩ = some (.int .i64 (-1)) ∧ w'.cell? ⟨gi, 2, none⟩ = some (.int .i64 0) ∧ w'.cell? ⟨gi, 3, none⟩ = some (.int .i64 (d.s c)) ∧ w'.cell? ⟨gi, 4, none⟩ = some (.bool bb) ∧
     w'.cell? ⟨w.heap.size + 1 + 1, 0, none⟩ = some (cv w' ⟨w.heap.size + 1 + 1, 0, none⟩) ∧ w'.cell? ⟨w.heap.size + 1 + 1, 1, none⟩ = some (cv w' ⟨w.heap.size + 1 + 1, 1, none⟩) ∧ w'.cell? ⟨w.heap.size + 1 + 1, 2, none⟩ = some (cv w' ⟨w.heap.size + 1 + 1, 2, none⟩) ∧
     w'.cell? ⟨w.heap.size + 1 + 1 + 1, 0, none⟩ = some (cv w' ⟨w.heap.size + 1 + 1 + 1, 0, none⟩) ∧ w'.cell? ⟨w.heap.size + 1 + 1 + 1, 1, none⟩ = some (cv w' ⟨w.heap.size + 1 + 1 + 1, 1, none⟩) ∧ w'.cell? ⟨w.heap.size + 1 + 1 + 1, 2, none⟩ = some (cv w' ⟨w.heap.size + 1 + 1 + 1, 2, none⟩) ∧ w'.cell? ⟨w.heap.size + 1 + 1 + 1, 3, none⟩ = some (cv w' ⟨w.heap.size + 1 + 1 + 1, 3, none⟩) ∧ w'.cell? ⟨w.heap.size + 1 + 1 + 1, 4, none⟩ = some (cv w' ⟨w.heap.size + 1 + 1 + 1, 4, none⟩) ∧
     (∀ o, w'.frozen? ⟨w.heap.size + 1 + 1, o, none⟩ = false) ∧ (∀ o, w'.frozen? ⟨w.heap.size + 1 + 1 + 1, o, none⟩ = false) ∧ UC w gi (.slice (some ⟨ab, ao, none⟩) d.n cp) (.slice B m cq) (.int .i64 (d.lp : Int)) (.int .i64 1) (.int .i64 (-1)) (.int .i64 0) (.int .i64 (d.s c)) (.bool bb) w')
     ((go_split_ands; refine UC.all ?_; (repeat (first | (with_reducible assumption) | (with_reducible exact HU.out) | (with_reducible refine UC.setD ?_ _ _) | (with_reducible refine UC.setM ?_ _ _) | (with_reducible refine UC.alloc ?_ _) | (with_reducible refine UC.drew ?_) | (with_reducible refine UC.below ?_ hb6)))))
     (first
       | (go_at_call 83
          refine Calls.mono (shrunk_sl [c] d.sg LL ((d.lp : Int) + 1) (some ⟨ab, ao, none⟩) (some ⟨g2, 0, none⟩) (some ⟨W5.heap.size, 0, none⟩) d.n m 1 cp c2 1 _ ?_ ?_ ?_ (Pl.few_one c) HM.out HCAP.out.1 HCAP.out.2 (by omega) (by omega) HLE.out) ?_
          ·exact KS.out
          ·exact KM.out
          ·exact KG.out
          rintro e w6 ⟨A7, A8, c7, c8, rfl, owS, owM, hb6⟩
          have OWS:=hide owS
          have OWM:=hide owM
          clear owS owM))
    all_goals
     have HU6:=hide (show UC w gi (.slice (some ⟨ab, ao, none⟩) d.n cp) (.slice B m cq) (.int .i64 (d.lp : Int)) (.int .i64 1) (.int .i64 (-1)) (.int .i64 0) (.int .i64 (d.s c)) (.bool bb) w6 from by
      repeat (first | (with_reducible assumption) | (with_reducible exact HU.out) | (with_reducible refine UC.alloc ?_ _) | (with_reducible refine UC.drew ?_) | (with_reducible refine UC.below ?_ hb6)))
     have hb6s : W5.heap.size + 1 + 2 ≤ w6.heap.size ∨ True:=.inr trivial
     go_wp2
     obtain ⟨vs6, r6, l6⟩ := HU6.out.rd
     obtain ⟨us6, t6, k6⟩ := HU6.out.rm
     refine bodyPost_ret (v := .tuple #[.agg #[.slice A7 (Pl.left d.sg.length [c]).length c7, .slice A8 (4 * (Pl.left d.sg.length [c]).length) c8, .int .i64 ((d.lp : Int) + 1)], .agg #[.int .i64 1, .int .i64 (-1), .int .i64 0, .int .i64 (d.s c), .bool bb], .int .i64 0]) ?_ rfl ?_
     ·obtain ⟨e0, e1, e2, e3, e4, e5, e6, e7⟩ := fin8 r6 t6 l6 k6 (by omega) (.slice A7 (Pl.left d.sg.length [c]).length c7) (.slice A8 (4 * (Pl.left d.sg.length [c]).length) c8) (.int .i64 ((d.lp : Int) + 1)) (.int .i64 1) (.int .i64 (-1)) (.int .i64 0) (.int .i64 (d.s c)) (.bool bb)
      simp [results, Try.results48, go_sem, e0, e1, e2, e3, e4, e5, e6, e7]
     ·have hn7 : (unD d c).n = (Pl.left d.sg.length [c]).length:=by unfold unD Pl.Dg.n; exact Pl.shrS_len _ _
      refine ⟨fun h => absurd HE0.out h, fun _ => ⟨A7, A8, c7, c8, ?_, ?_, ?_⟩, below8 HU6.out.bel _ _ _ _ _ _ _ _⟩
      ·rw [hn7]
       unfold unD unI Mv.v
       simp only [← HA.out, ← HB.out, if_pos HCL.out]
       have e1 : ((d.lp + 1 : Nat) : Int) = (d.lp : Int) + 1:=by omega
       have e2 : decide (a % 2 = 1) = bb:=by rw [HBB.out, Bool.eq_iff_iff]; simp; omega
       rw [e1, e2]
      ·rw [hn7]
       refine own_intsT (base := (W5.alloc (.cells #[.int .i64 (c : Int)] 3)).drew.heap.size + 2) (e := 3) (c := c7) (own8 ?_ ?_ _ _ _ _ _ _ _ _)
       ·exact OWS.out
       ·have:=HU.out.i.lt; have := HU.out.lo; simp; omega
      ·rw [hn7]
       refine own_intsT (base := (W5.alloc (.cells #[.int .i64 (c : Int)] 3)).drew.heap.size + 2) (e := 3) (c := c8) (own8 ?_ ?_ _ _ _ _ _ _ _ _)
       ·rw [map_nats]
        have:=OWM.out
        rw [HLL.out] at this
        exact this
       ·have:=HU.out.i.lt; have := HU.out.lo; simp; omega
  ·have HC:=hide (show ¬ d.mt.getD a 0 = b by rw [HGA.out]; exact hcl)
   have HCL:=hide hcl
   have HGB:=hide (show d.mt.getD b 0 = d.m b from getD_m (by rw [HML.out]; exact hbm))
   clear hcl
   obtain ⟨f0, f1, f2, f3⟩ := box3 Z0.out
   have hwr : IntKind.i64.wrap (d.lp : Int) = (d.lp : Int):=IntWalk.i64_in _ (by omega)
   have hwr0 : IntKind.i64.wrap ((d.lp : Int) + 0) = (d.lp : Int):=by rw [Int.add_zero]; exact hwr
   go_region_held3 (fun w' => w'.cell? ⟨w.heap.size, 2, none⟩ = some (.int .i64 (d.lp : Int))) (first | go_keep | assumption)
    (first
      | (go_at_call 81
         refine Calls.mono (closed_no w1.heap.size g2 m c2 a b d.mt _ ?_ ham hbm (by omega) HLT.out HC.out) ?_
         ·exact OwnN.drew' rfl OWN2.out
         rintro e w3 ⟨rfl, own3, gr3⟩
         obtain ⟨_, _, h2, _⟩ := box3 ((Z0.out.drew).grown gr3 (by intro h; injection h; omega))
         have OWN3:=hide own3
         have GR3:=hide gr3
         clear own3 gr3))
   clear hwr hwr0 f0 f1 f2 f3 h2
   have V0:=hide ((Z0.out.drew).grown GR3.out (by intro h; injection h; omega))
   have V1:=hide ((Z1.out.drew).grown GR3.out (by intro h; injection h; omega))
   have V2:=hide ((Z2.out.drew).grown GR3.out (by intro h; injection h; omega))
   have V3:=hide ((Z3.out.drew).grown GR3.out (by intro h; injection h; omega))
   have B3:=hide ((B2.out.drew).grown GR3.out (B2.out.drew).size (fun k hk => by injection hk with hk; omega))
   have hs3 : w.heap.size + 4 ≤ w3.heap.size:=by have := GR3.out.size; have : w2.drew.heap.size = w2.heap.size := rfl; omega
   have l1 : w.heap.size < w3.heap.size:=by omega
   have l2 : w.heap.size + 1 < w3.heap.size:=by omega
   have l3 : w.heap.size + 1 + 1 < w3.heap.size:=by omega
   have l4 : w.heap.size + 1 + 1 + 1 < w3.heap.size:=by omega
   obtain ⟨f0, f1, f2, f3⟩ := box3 V0.out
   obtain ⟨m0, m1, m2, m3, m4, m5⟩ := box5 V1.out
   obtain ⟨p0, p1, p2, p3⟩ := box3 V2.out
   obtain ⟨q0, q1, q2, q3, q4, q5⟩ := box5 V3.out
   have hfu : (d.lp : Int) ≤ 64:=by omega
   have HG3:=hide (HG.out.keep B3.out)
   obtain ⟨ab, ao, rfl, hcs⟩ := sign_at HG3.out.s hc
   obtain ⟨mb, mo, rfl, hcm⟩ := mate_at HG3.out.m (k := a) (by have := HM.out; omega)
   have lmb : mb < w3.heap.size:=lt_of_cell hcm
   have ia : (0 : Int) ≤ (a : Int):=by omega
   have ib : (a : Int) < (m : Int):=by omega
   have hma : d.m a ≤ 256:=by have := hd.lt a ha1; omega
   obtain ⟨u, hu⟩ : ∃ u, u = d.m a := ⟨_, rfl⟩
   rw [← hu] at hcm hma
   have HUU:=hide hu
   clear hu
   go_wp2_with fail
   obtain ⟨bb, hbb⟩ : ∃ bb, bb = ((a : Int) % 2 == 1) := ⟨_, rfl⟩
   have HBB:=hide hbb
   rw [← hbb]
   clear hbb
   refine (shifted_any [c] (some ⟨w3.heap.size + 1, 0, none⟩) 1 1 u _ ?_ (by omega) (by omega) (Pl.few_one c)).mono ?_
   ·exact one_ints' (w3.alloc (.cells #[.int .i64 1, .int .i64 (-1), .int .i64 0, .int .i64 (d.s c), .bool bb] 28)) c (by simp)
   rintro e w4 ⟨rfl, rfl⟩
   go_wp2_with fail
   obtain ⟨W5, hW5⟩ : ∃ W5 : World, W5 = (w3.alloc (.cells #[.int .i64 1, .int .i64 (Pl.shf [c] u : Nat), .int .i64 0, .int .i64 (d.s c), .bool bb] 28)).alloc (.cells #[.int .i64 (c : Int)] 3) := ⟨_, rfl⟩
   rw [← hW5]
   obtain ⟨gi, hgi⟩ : ∃ gi, gi = w3.heap.size := ⟨_, rfl⟩
   rw [← hgi]
   have HU:=hide (show UC w gi (.slice (some ⟨ab, ao, none⟩) d.n cp) (.slice (some ⟨mb, mo, none⟩) m cq) (.int .i64 (d.lp : Int)) (.int .i64 1) (.int .i64 (Pl.shf [c] u : Nat)) (.int .i64 0) (.int .i64 (d.s c)) (.bool bb) W5 by
    rw [hW5]
    exact ⟨(V0.out.alloc _).alloc _, Row.alloc (row_at (vs := [.int .i64 1, .int .i64 (Pl.shf [c] u : Nat), .int .i64 0, .int .i64 (d.s c), .bool bb]) hgi) _, ⟨_, (V2.out.alloc _).alloc _, rfl⟩, ⟨_, (V3.out.alloc _).alloc _, rfl⟩, (B3.out.alloc (by omega) _).alloc (by simp; omega) _, by omega⟩)
   obtain ⟨LL, hLL⟩ : ∃ LL, LL = jn d.mt (d.mt.getD a 0) (d.mt.getD b 0) := ⟨_, rfl⟩
   have HMo:=hide (show OwnN W5 w1.heap.size g2 m c2 LL by rw [hW5, hLL]; exact (OWN3.out.alloc _).alloc _)
   have HLE:=hide (show ∀ k, LL.getD k 0 ≤ 1000 from fun k => by rw [hLL]; exact Nat.le_trans (jn_le (getD_le hd) (getD_le hd a) (getD_le hd b) k) (by omega))
   have HG5:=hide (show DgAt W5 (some ⟨ab, ao, none⟩) (some ⟨mb, mo, none⟩) d from HG.out.keep HU.out.bel)
   have HLL:=hide (show LL = unM d c by unfold unM; rw [← HA.out, ← HB.out, if_neg HCL.out, hLL, HGA.out, HGB.out])
   have HE0:=hide (show uncC d c = 0 by unfold uncC; rw [if_pos HK.out, ← HA.out, ← HB.out, if_neg HCL.out])
   clear hW5 hgi hLL f0 f1 f2 f3 m0 m1 m2 m3 m4 m5 p0 p1 p2 p3 q0 q1 q2 q3 q4 q5 hcs hcm l1 l2 l3 l4
   have HCAP:=hide HMo.out.caps
   have KS:=hide (IntsAt.drew ((HG5.out.s).alloc (.cells #[.int .i64 (c : Int)] 3)))
   have KM:=hide (OwnN.ints (OwnN.drew' rfl (HMo.out.alloc (.cells #[.int .i64 (c : Int)] 3))))
   have KG:=hide (one_ints W5 c)
   go_region_held3 (fun w' => w'.cell? ⟨w.heap.size, 0, none⟩ = some (.slice (some ⟨ab, ao, none⟩) d.n cp) ∧ w'.cell? ⟨gi, 0, none⟩ = some (.int .i64 1) ∧ w'.cell? ⟨gi, 1, none⟩ = some (.int .i64 (Pl.shf [c] u : Nat)) ∧ w'.cell? ⟨gi, 2, none⟩ = some (.int .i64 0) ∧ w'.cell? ⟨gi, 3, none⟩ = some (.int .i64 (d.s c)) ∧ w'.cell? ⟨gi, 4, none⟩ = some (.bool bb) ∧
    w'.cell? ⟨w.heap.size + 1 + 1, 0, none⟩ = some (cv w' ⟨w.heap.size + 1 + 1, 0, none⟩) ∧ w'.cell? ⟨w.heap.size + 1 + 1, 1, none⟩ = some (cv w' ⟨w.heap.size + 1 + 1, 1, none⟩) ∧ w'.cell? ⟨w.heap.size + 1 + 1, 2, none⟩ = some (cv w' ⟨w.heap.size + 1 + 1, 2, none⟩) ∧
    w'.cell? ⟨w.heap.size + 1 + 1 + 1, 0, none⟩ = some (cv w' ⟨w.heap.size + 1 + 1 + 1, 0, none⟩) ∧ w'.cell? ⟨w.heap.size + 1 + 1 + 1, 1, none⟩ = some (cv w' ⟨w.heap.size + 1 + 1 + 1, 1, none⟩) ∧ w'.cell? ⟨w.heap.size + 1 + 1 + 1, 2, none⟩ = some (cv w' ⟨w.heap.size + 1 + 1 + 1, 2, none⟩) ∧ w'.cell? ⟨w.heap.size + 1 + 1 + 1, 3, none⟩ = some (cv w' ⟨w.heap.size + 1 + 1 + 1, 3, none⟩) ∧ w'.cell? ⟨w.heap.size + 1 + 1 + 1, 4, none⟩ = some (cv w' ⟨w.heap.size + 1 + 1 + 1, 4, none⟩) ∧
    (∀ o, w'.frozen? ⟨w.heap.size + 1 + 1, o, none⟩ = false) ∧ (∀ o, w'.frozen? ⟨w.heap.size + 1 + 1 + 1, o, none⟩ = false) ∧ UC w gi (.slice (some ⟨ab, ao, none⟩) d.n cp) (.slice (some ⟨mb, mo, none⟩) m cq) (.int .i64 (d.lp : Int)) (.int .i64 1) (.int .i64 (Pl.shf [c] u : Nat)) (.int .i64 0) (.int .i64 (d.s c)) (.bool bb) w')
    ((go_split_ands; refine UC.all ?_; (repeat (first | (with_reducible assumption) | (with_reducible exact HU.out) | (with_reducible refine UC.setD ?_ _ _) | (with_reducible refine UC.setM ?_ _ _) | (with_reducible refine UC.alloc ?_ _) | (with_reducible refine UC.drew ?_) | (with_reducible refine UC.below ?_ hb6)))))
    (first
      | (go_at_call 83
         refine Calls.mono (shrunk_sl [c] d.sg LL (d.lp : Int) (some ⟨ab, ao, none⟩) (some ⟨g2, 0, none⟩) (some ⟨W5.heap.size, 0, none⟩) d.n m 1 cp c2 1 _ ?_ ?_ ?_ (Pl.few_one c) HM.out HCAP.out.1 HCAP.out.2 (by omega) (by omega) HLE.out) ?_
         ·exact KS.out
         ·exact KM.out
         ·exact KG.out
         rintro e w6 ⟨A7, A8, c7, c8, rfl, owS, owM, hb6⟩
         have OWS:=hide owS
         have OWM:=hide owM
         clear owS owM))
   all_goals
    have HU6:=hide (show UC w gi (.slice (some ⟨ab, ao, none⟩) d.n cp) (.slice (some ⟨mb, mo, none⟩) m cq) (.int .i64 (d.lp : Int)) (.int .i64 1) (.int .i64 (Pl.shf [c] u : Nat)) (.int .i64 0) (.int .i64 (d.s c)) (.bool bb) w6 from by
     repeat (first | (with_reducible assumption) | (with_reducible exact HU.out) | (with_reducible refine UC.alloc ?_ _) | (with_reducible refine UC.drew ?_) | (with_reducible refine UC.below ?_ hb6)))
    have hb6s : W5.heap.size + 1 + 2 ≤ w6.heap.size ∨ True:=.inr trivial
    go_wp2
    obtain ⟨vs6, r6, l6⟩ := HU6.out.rd
    obtain ⟨us6, t6, k6⟩ := HU6.out.rm
    refine bodyPost_ret (v := .tuple #[.agg #[.slice A7 (Pl.left d.sg.length [c]).length c7, .slice A8 (4 * (Pl.left d.sg.length [c]).length) c8, .int .i64 (d.lp : Int)], .agg #[.int .i64 1, .int .i64 (Pl.shf [c] u : Nat), .int .i64 0, .int .i64 (d.s c), .bool bb], .int .i64 0]) ?_ rfl ?_
    ·obtain ⟨e0, e1, e2, e3, e4, e5, e6, e7⟩ := fin8 r6 t6 l6 k6 (by omega) (.slice A7 (Pl.left d.sg.length [c]).length c7) (.slice A8 (4 * (Pl.left d.sg.length [c]).length) c8) (.int .i64 (d.lp : Int)) (.int .i64 1) (.int .i64 (Pl.shf [c] u : Nat)) (.int .i64 0) (.int .i64 (d.s c)) (.bool bb)
     simp [results, Try.results48, go_sem, e0, e1, e2, e3, e4, e5, e6, e7]
    ·have hn7 : (unD d c).n = (Pl.left d.sg.length [c]).length:=by unfold unD Pl.Dg.n; exact Pl.shrS_len _ _
     refine ⟨fun h => absurd HE0.out h, fun _ => ⟨A7, A8, c7, c8, ?_, ?_, ?_⟩, below8 HU6.out.bel _ _ _ _ _ _ _ _⟩
     ·rw [hn7]
      unfold unD unI Mv.v
      simp only [← HA.out, ← HB.out, if_neg HCL.out]
      simp only [← HUU.out]
      have e2 : decide (a % 2 = 1) = bb:=by rw [HBB.out, Bool.eq_iff_iff]; simp; omega
      rw [e2]
     ·rw [hn7]
      refine own_intsT (base := (W5.alloc (.cells #[.int .i64 (c : Int)] 3)).drew.heap.size + 2) (e := 3) (c := c7) (own8 ?_ ?_ _ _ _ _ _ _ _ _)
      ·exact OWS.out
      ·have:=HU.out.i.lt; have := HU.out.lo; simp; omega
     ·rw [hn7]
      refine own_intsT (base := (W5.alloc (.cells #[.int .i64 (c : Int)] 3)).drew.heap.size + 2) (e := 3) (c := c8) (own8 ?_ ?_ _ _ _ _ _ _ _ _)
      ·rw [map_nats]
       have:=OWM.out
       rw [HLL.out] at this
       exact this
      ·have:=HU.out.i.lt; have := HU.out.lo; simp; omega
 ·rw [Pl.vb_false (show ¬ isK d c from hK)]
  unfold kinkE
  rw [if_neg (by decide)]
  have HK:=hide hK
  clear hK
  go_wp2
  refine bodyPost_ret (v := .tuple #[nilD, nilM, .int .i64 6]) ?_ rfl ?_
  ·obtain ⟨e0, e1, e2, e3, e4, e5, e6, e7⟩ := fin8 Y2.out Y3.out rfl rfl (by omega) (.slice none 0 0) (.slice none 0 0) (.int .i64 0) (.int .i64 0) (.int .i64 0) (.int .i64 0) (.int .i64 0) (.bool false)
   unfold nilD nilM
   simp [results, Try.results48, go_sem, e0, e1, e2, e3, e4, e5, e6, e7]
  ·have e6 : uncC d c = 6:=by unfold uncC; rw [if_neg HK.out]
   refine ⟨fun _ => by rw [e6]; exact rfl, fun h => absurd h (by rw [e6]; decide), below8 B1.out _ _ _ _ _ _ _ _⟩
end Go.Proofs.Ytobbepmlmbbamaa
end
section
namespace Go.Proofs.Ytobbepmlmbbamaa
open Go Go.RowKit
attribute [local go_sem ↓] Go.wp_at_zero Go.wp_at_succ
def lnS (d : Pl.Dg) (y : Int) : Nat := if fwd d y then 0 else 2
def th0 (d : Pl.Dg) (x : Int) : Nat := if fwd d x then 3 else 1
def th1 (d : Pl.Dg) (x : Int) : Nat := if fwd d x then 1 else 3
def un0 (d : Pl.Dg) (x y : Int) (ov : Bool) : Nat := if ov then lnS d y else th0 d x
def un1 (d : Pl.Dg) (x y : Int) (ov : Bool) : Nat := if ov then lnS d y else th1 d x
def ov0 (d : Pl.Dg) (x y : Int) (ov : Bool) : Nat := if ov then th0 d x else lnS d y
def ov1 (d : Pl.Dg) (x y : Int) (ov : Bool) : Nat := if ov then th1 d x else lnS d y
def sgn2 (u o : Nat) : Int := if plc 0 u o = 3 then 1 else -1
theorem box2 {W : World} {g : Nat} {t : TypeId} {a b : Value} (h : Row W g t [a, b]) : W.cell? ⟨g, 0, none⟩ = some a ∧ W.cell? ⟨g, 1, none⟩ = some b ∧ ∀ o, W.frozen? ⟨g, o, none⟩ = false :=
 ⟨h.cell (i := 0) (by simp), h.cell (i := 1) (by simp), h.free⟩
structure RS (w : World) (x0 x1 x2 y0 y1 y2 y3 y4 : Value) (W : World) : Prop where
 d : Row W w.heap.size 24 [x0, x1, x2]
 m : Row W (w.heap.size + 1) 28 [y0, y1, y2, y3, y4]
 rd : ∃ vs, Row W (w.heap.size + 1 + 1) 24 vs ∧ vs.length = 3
 ra : ∃ us, Row W (w.heap.size + 1 + 1 + 1) 86 us ∧ us.length = 2
 bel : Below w.heap.size w W
section
variable {w : World} {x0 x1 x2 y0 y1 y2 y3 y4 : Value} {W W' : World}
theorem RS.drew (h : RS w x0 x1 x2 y0 y1 y2 y3 y4 W) : RS w x0 x1 x2 y0 y1 y2 y3 y4 W.drew := ⟨h.d, h.m, h.rd, h.ra, h.bel.drew⟩
theorem RS.below (h : RS w x0 x1 x2 y0 y1 y2 y3 y4 W) (hb : Below W.heap.size W W') : RS w x0 x1 x2 y0 y1 y2 y3 y4 W' :=
 let ⟨vs, r1, l1⟩ := h.rd
 let ⟨us, r2, l2⟩ := h.ra
 ⟨h.d.below hb, h.m.below hb, ⟨vs, r1.below hb, l1⟩, ⟨us, r2.below hb, l2⟩, h.bel.trans (hb.mono h.bel.size)⟩
theorem RS.alloc (h : RS w x0 x1 x2 y0 y1 y2 y3 y4 W) (o : Obj) : RS w x0 x1 x2 y0 y1 y2 y3 y4 (W.alloc o) := h.below ((Below.refl _ _).alloc (Nat.le_refl _) o)
theorem RS.big (h : RS w x0 x1 x2 y0 y1 y2 y3 y4 W) : w.heap.size + 1 + 1 + 1 < W.heap.size := let ⟨_, r2, _⟩ := h.ra; r2.lt
theorem RS.far (h : RS w x0 x1 x2 y0 y1 y2 y3 y4 W) {g : Nat} (hg : w.heap.size + 1 + 1 + 1 < g) (o : Nat) (v : Value) : RS w x0 x1 x2 y0 y1 y2 y3 y4 (W.setCell ⟨g, o, none⟩ v) :=
 let ⟨vs, r1, l1⟩ := h.rd
 let ⟨us, r2, l2⟩ := h.ra
 ⟨h.d.other (by show _ ≠ g; omega) v, h.m.other (by show _ ≠ g; omega) v, ⟨vs, r1.other (by show _ ≠ g; omega) v, l1⟩, ⟨us, r2.other (by show _ ≠ g; omega) v, l2⟩, h.bel.setCell (by show _ ≤ g; omega) v⟩
end
theorem rs_start (w : World) (x0 x1 x2 y0 y1 y2 y3 y4 : Value) : RS w x0 x1 x2 y0 y1 y2 y3 y4 ((((w.alloc (.cells #[x0, x1, x2] 24)).alloc (.cells #[y0, y1, y2, y3, y4] 28)).alloc (.cells #[.slice none 0 0, .slice none 0 0, .int .i64 0] 24)).alloc (.cells #[.int .i64 0, .int .i64 0] 86)) := by
 refine ⟨(((row_at (vs := [x0, x1, x2]) rfl).alloc _).alloc _).alloc _, ((row_at (vs := [y0, y1, y2, y3, y4]) (by simp)).alloc _).alloc _, ⟨[.slice none 0 0, .slice none 0 0, .int .i64 0], (row_at (vs := [.slice none 0 0, .slice none 0 0, .int .i64 0]) (by simp)).alloc _, rfl⟩, ⟨[.int .i64 0, .int .i64 0], row_at (vs := [.int .i64 0, .int .i64 0]) (by simp), rfl⟩, ?_⟩
 exact ((((Below.refl _ _).alloc (Nat.le_refl _) _).alloc (by simp) _).alloc (by simp; omega) _).alloc (by simp; omega) _
theorem RS_drewN {w : World} {x0 x1 x2 y0 y1 y2 y3 y4 : Value} {W : World} (h : RS w x0 x1 x2 y0 y1 y2 y3 y4 W) (n : Nat) : RS w x0 x1 x2 y0 y1 y2 y3 y4 (W.drewN n) := ⟨h.d, h.m, h.rd, h.ra, below_drewN h.bel n⟩
theorem Row_drewN {w : World} {g : Nat} {t : TypeId} {vs : List Value} (h : Row w g t vs) (n : Nat) : Row (w.drewN n) g t vs := h
structure RT (w : World) (x0 x1 x2 y0 y1 y2 y3 y4 : Value) (gu gs : Nat) (p0 p1 q0 q1 : Value) (W : World) : Prop where
 rs : RS w x0 x1 x2 y0 y1 y2 y3 y4 W
 u : Row W gu 86 [p0, p1]
 s : Row W gs 86 [q0, q1]
 lu : w.heap.size + 1 + 1 + 1 < gu
 ls : w.heap.size + 1 + 1 + 1 < gs
section
variable {w : World} {x0 x1 x2 y0 y1 y2 y3 y4 : Value} {gu gs : Nat} {p0 p1 q0 q1 : Value} {W W' : World}
theorem RT.drew (h : RT w x0 x1 x2 y0 y1 y2 y3 y4 gu gs p0 p1 q0 q1 W) : RT w x0 x1 x2 y0 y1 y2 y3 y4 gu gs p0 p1 q0 q1 W.drew := ⟨h.rs.drew, h.u, h.s, h.lu, h.ls⟩
theorem RT.below (h : RT w x0 x1 x2 y0 y1 y2 y3 y4 gu gs p0 p1 q0 q1 W) (hb : Below W.heap.size W W') : RT w x0 x1 x2 y0 y1 y2 y3 y4 gu gs p0 p1 q0 q1 W' := ⟨h.rs.below hb, h.u.below hb, h.s.below hb, h.lu, h.ls⟩
theorem RT.alloc (h : RT w x0 x1 x2 y0 y1 y2 y3 y4 gu gs p0 p1 q0 q1 W) (o : Obj) : RT w x0 x1 x2 y0 y1 y2 y3 y4 gu gs p0 p1 q0 q1 (W.alloc o) := h.below ((Below.refl _ _).alloc (Nat.le_refl _) o)
theorem RT.setD (h : RT w x0 x1 x2 y0 y1 y2 y3 y4 gu gs p0 p1 q0 q1 W) (o : Nat) (v : Value) : RT w x0 x1 x2 y0 y1 y2 y3 y4 gu gs p0 p1 q0 q1 (W.setCell ⟨w.heap.size + 1 + 1, o, none⟩ v) :=
 let ⟨vs, r1, l1⟩ := h.rs.rd
 let ⟨us, r2, l2⟩ := h.rs.ra
 have a:=h.lu
 have b:=h.ls
 ⟨⟨h.rs.d.other (by show _ ≠ w.heap.size + 1 + 1; omega) v, h.rs.m.other (by show _ ≠ w.heap.size + 1 + 1; omega) v, ⟨vs.set o v, r1.set o v, by rw [List.length_set, l1]⟩, ⟨us, r2.other (by show _ ≠ w.heap.size + 1 + 1; omega) v, l2⟩, h.rs.bel.setCell (by show _ ≤ w.heap.size + 1 + 1; omega) v⟩,
  h.u.other (by show _ ≠ w.heap.size + 1 + 1; omega) v, h.s.other (by show _ ≠ w.heap.size + 1 + 1; omega) v, h.lu, h.ls⟩
theorem RT.setA (h : RT w x0 x1 x2 y0 y1 y2 y3 y4 gu gs p0 p1 q0 q1 W) (o : Nat) (v : Value) : RT w x0 x1 x2 y0 y1 y2 y3 y4 gu gs p0 p1 q0 q1 (W.setCell ⟨w.heap.size + 1 + 1 + 1, o, none⟩ v) :=
 let ⟨vs, r1, l1⟩ := h.rs.rd
 let ⟨us, r2, l2⟩ := h.rs.ra
 have a:=h.lu
 have b:=h.ls
 ⟨⟨h.rs.d.other (by show _ ≠ w.heap.size + 1 + 1 + 1; omega) v, h.rs.m.other (by show _ ≠ w.heap.size + 1 + 1 + 1; omega) v, ⟨vs, r1.other (by show _ ≠ w.heap.size + 1 + 1 + 1; omega) v, l1⟩, ⟨us.set o v, r2.set o v, by rw [List.length_set, l2]⟩, h.rs.bel.setCell (by show _ ≤ w.heap.size + 1 + 1 + 1; omega) v⟩,
  h.u.other (by show _ ≠ w.heap.size + 1 + 1 + 1; omega) v, h.s.other (by show _ ≠ w.heap.size + 1 + 1 + 1; omega) v, h.lu, h.ls⟩
theorem RT.all (h : RT w x0 x1 x2 y0 y1 y2 y3 y4 gu gs p0 p1 q0 q1 W) : W.cell? ⟨w.heap.size, 0, none⟩ = some x0 ∧ W.cell? ⟨w.heap.size, 1, none⟩ = some x1 ∧ W.cell? ⟨w.heap.size, 2, none⟩ = some x2 ∧ W.cell? ⟨gs, 0, none⟩ = some q0 ∧ W.cell? ⟨gs, 1, none⟩ = some q1 ∧ W.cell? ⟨gu, 0, none⟩ = some p0 ∧ W.cell? ⟨gu, 1, none⟩ = some p1 ∧
 W.cell? ⟨w.heap.size + 1 + 1, 0, none⟩ = some (cv W ⟨w.heap.size + 1 + 1, 0, none⟩) ∧ W.cell? ⟨w.heap.size + 1 + 1, 1, none⟩ = some (cv W ⟨w.heap.size + 1 + 1, 1, none⟩) ∧ W.cell? ⟨w.heap.size + 1 + 1, 2, none⟩ = some (cv W ⟨w.heap.size + 1 + 1, 2, none⟩) ∧
 W.cell? ⟨w.heap.size + 1 + 1 + 1, 0, none⟩ = some (cv W ⟨w.heap.size + 1 + 1 + 1, 0, none⟩) ∧ W.cell? ⟨w.heap.size + 1 + 1 + 1, 1, none⟩ = some (cv W ⟨w.heap.size + 1 + 1 + 1, 1, none⟩) ∧
 (∀ o, W.frozen? ⟨w.heap.size + 1 + 1, o, none⟩ = false) ∧ (∀ o, W.frozen? ⟨w.heap.size + 1 + 1 + 1, o, none⟩ = false) ∧ RT w x0 x1 x2 y0 y1 y2 y3 y4 gu gs p0 p1 q0 q1 W := by
 obtain ⟨vs, r1, l1⟩ := h.rs.rd
 obtain ⟨us, r2, l2⟩ := h.rs.ra
 obtain ⟨d0, d1, d2, _⟩ := box3 h.rs.d
 obtain ⟨s0, s1, _⟩ := box2 h.s
 obtain ⟨u0, u1, _⟩ := box2 h.u
 exact ⟨d0, d1, d2, s0, s1, u0, u1, cv_some (r1.cell (i := 0) (by omega)), cv_some (r1.cell (i := 1) (by omega)), cv_some (r1.cell (i := 2) (by omega)), cv_some (r2.cell (i := 0) (by omega)), cv_some (r2.cell (i := 1) (by omega)), r1.free, r2.free, h⟩
end
theorem fin5 {W : World} {gd ga : Nat} {vs us : List Value} (h1 : Row W gd 24 vs) (h2 : Row W ga 86 us) (l1 : vs.length = 3) (l2 : us.length = 2) (hne : gd ≠ ga) (y0 y1 y2 z0 z1 : Value) :
 (((((W.setCell ⟨gd, 0, none⟩ y0).setCell ⟨gd, 1, none⟩ y1).setCell ⟨gd, 2, none⟩ y2).setCell ⟨ga, 0, none⟩ z0).setCell ⟨ga, 1, none⟩ z1).cell? ⟨gd, 0, none⟩ = some y0 ∧ (((((W.setCell ⟨gd, 0, none⟩ y0).setCell ⟨gd, 1, none⟩ y1).setCell ⟨gd, 2, none⟩ y2).setCell ⟨ga, 0, none⟩ z0).setCell ⟨ga, 1, none⟩ z1).cell? ⟨gd, 1, none⟩ = some y1 ∧ (((((W.setCell ⟨gd, 0, none⟩ y0).setCell ⟨gd, 1, none⟩ y1).setCell ⟨gd, 2, none⟩ y2).setCell ⟨ga, 0, none⟩ z0).setCell ⟨ga, 1, none⟩ z1).cell? ⟨gd, 2, none⟩ = some y2 ∧
 (((((W.setCell ⟨gd, 0, none⟩ y0).setCell ⟨gd, 1, none⟩ y1).setCell ⟨gd, 2, none⟩ y2).setCell ⟨ga, 0, none⟩ z0).setCell ⟨ga, 1, none⟩ z1).cell? ⟨ga, 0, none⟩ = some z0 ∧ (((((W.setCell ⟨gd, 0, none⟩ y0).setCell ⟨gd, 1, none⟩ y1).setCell ⟨gd, 2, none⟩ y2).setCell ⟨ga, 0, none⟩ z0).setCell ⟨ga, 1, none⟩ z1).cell? ⟨ga, 1, none⟩ = some z1 := by
 obtain ⟨a, b, c, rfl⟩ : ∃ a b c, vs = [a, b, c] := by
  match vs, l1 with
  | [a, b, c], _ => exact ⟨a, b, c, rfl⟩
 obtain ⟨a', b', rfl⟩ : ∃ a b, us = [a, b] := by
  match us, l2 with
  | [a, b], _ => exact ⟨a, b, rfl⟩
 have r1:=((((h1.set 0 y0).set 1 y1).set 2 y2).other (a := ⟨ga, 0, none⟩) hne z0).other (a := ⟨ga, 1, none⟩) hne z1
 have r2:=((((h2.other (a := ⟨gd, 0, none⟩) (Ne.symm hne) y0).other (a := ⟨gd, 1, none⟩) (Ne.symm hne) y1).other (a := ⟨gd, 2, none⟩) (Ne.symm hne) y2).set 0 z0).set 1 z1
 exact ⟨r1.cell (i := 0) (by simp), r1.cell (i := 1) (by simp), r1.cell (i := 2) (by simp), r2.cell (i := 0) (by simp), r2.cell (i := 1) (by simp)⟩
theorem own_base {w : World} {base base' : Nat} {e : TypeId} {v : Value} {n : Nat} {xs : List Value} (h : w.ownsRow base e 1 v n xs) (hle : base' ≤ base) : w.ownsRow base' e 1 v n xs := own_keep h (Below.refl _ _) hle
theorem two_ints (W : World) (a b : Int) : IntsAt (W.alloc (.cells #[.int .i64 a, .int .i64 b] 3)).drew (some ⟨W.heap.size, 0, none⟩) 2 [a, b] := by
 refine IntsAt.drew ⟨rfl, fun _ => ⟨_, 0, rfl, fun j u hu => ?_⟩⟩
 have h:=heap_alloc_new W (.cells #[.int .i64 a, .int .i64 b] 3)
 match j, hu with
 | 0, hu => simp at hu; subst hu; exact (Lib.cell_of_heap h 0).trans rfl
 | 1, hu => simp at hu; subst hu; exact (Lib.cell_of_heap h 1).trans rfl
def RaisedPost (d : Pl.Dg) (x y : Int) (ov : Bool) (w : World) (e : Ending) (w' : World) : Prop :=
 ∃ g1 c1 g2 c2 : Nat, e = .returned (.tuple #[.agg #[.slice (some ⟨g1, 0, none⟩) (d.n + 2) c1, .slice (some ⟨g2, 0, none⟩) (4 * d.n + 8) c2, .int .i64 (d.lp : Int)], .agg #[.int .i64 (un0 d x y ov : Nat), .int .i64 (un1 d x y ov : Nat)]]) ∧
   w'.ownsRow w.heap.size 3 1 (.slice (some ⟨g1, 0, none⟩) (d.n + 2) c1) (d.n + 2) ((d.sg ++ [sgn2 (un0 d x y ov) (ov0 d x y ov), sgn2 (un1 d x y ov) (ov1 d x y ov)]).map (.int .i64)) ∧ OwnN w' w.heap.size g2 (4 * d.n + 8) c2 (d.mt ++ List.replicate 8 0) ∧ g1 ≠ g2 ∧ Below w.heap.size w w'
set_option maxRecDepth 100000 in
set_option maxHeartbeats 4000000 in
theorem raised_any (d : Pl.Dg) (hd : Pl.Wf d) (A B : Option Addr) (cp cq m : Nat) (k x y sg : Int) (ov : Bool) (w : World) (hm : m = 4 * d.n) (hg : DgAt w A B d) (hx : x < 4 * (d.n : Int)) (hy : y < 4 * (d.n : Int)) :
 Calls Try.prog 85 #[.agg #[.slice A d.n cp, .slice B m cq, .int .i64 d.lp], .agg #[.int .i64 k, .int .i64 x, .int .i64 y, .int .i64 sg, .bool ov]] w (RaisedPost d x y ov w) := by
 have hn:=hd.few
 have HM:=hide hm
 have HG:=hide hg
 have hm2 : m ≤ 256:=by omega
 clear hm hg
 have RS0:=hide (rs_start w (.slice A d.n cp) (.slice B m cq) (.int .i64 (d.lp : Int)) (.int .i64 k) (.int .i64 x) (.int .i64 y) (.int .i64 sg) (.bool ov))
 go_enter Try.func85, Try.ntmps85
 go_wp2_with fail
 refine (forward_any d A B cp m cq (.int .i64 (d.lp : Int)) y _ hy (by omega) ((HG.out.keep (RS0.out.alloc _).bel).s)).mono ?_
 rintro e w1 ⟨rfl, hb1⟩
 have RS1:=hide ((RS0.out.alloc (.cells #[.int .i64 0, .int .i64 0] 86)).below hb1)
 have L1:=hide (show Row w1 (w.heap.size + 1 + 1 + 1 + 1) 86 [.int .i64 0, .int .i64 0] from (row_at (vs := [.int .i64 0, .int .i64 0]) (by simp)).below hb1)
 clear hb1
 obtain ⟨l0, hl0⟩ : ∃ l0, l0 = lnS d y := ⟨_, rfl⟩
 obtain ⟨t0, ht0⟩ : ∃ t0, t0 = th0 d x := ⟨_, rfl⟩
 obtain ⟨t1, ht1⟩ : ∃ t1, t1 = th1 d x := ⟨_, rfl⟩
 have HL0:=hide hl0
 have HT0:=hide ht0
 have HT1:=hide ht1
 have bl0 : l0 < 4:=by rw [hl0]; unfold lnS; split <;> omega
 have bt0 : t0 < 4:=by rw [ht0]; unfold th0; split <;> omega
 have bt1 : t1 < 4:=by rw [ht1]; unfold th1; split <;> omega
 clear hl0 ht0 ht1
 go_upto_if 17 with fail
 go_cut [18] (fun _ wx => RS w (.slice A d.n cp) (.slice B m cq) (.int .i64 (d.lp : Int)) (.int .i64 k) (.int .i64 x) (.int .i64 y) (.int .i64 sg) (.bool ov) wx ∧ Row wx (w.heap.size + 1 + 1 + 1 + 1) 86 [.int .i64 (l0 : Int), .int .i64 (l0 : Int)])
 case first =>
  have hbig:=RS1.out.big
  obtain ⟨a0, a1, a2⟩ := box2 L1.out
  cases hfy : fwd d y with
  | true =>
    have e0 : l0 = 0:=by rw [HL0.out]; unfold lnS; rw [if_pos hfy]
    have E0:=hide e0
    clear e0 hfy
    go_wp2_with fail
    go_meet
    exact ⟨RS1.out, by rw [E0.out]; exact L1.out⟩
  | false =>
    have e0 : l0 = 2:=by rw [HL0.out]; unfold lnS; rw [if_neg (by rw [hfy]; decide)]
    have E0:=hide e0
    clear e0 hfy
    go_wp2_with fail
    go_meet
    exact ⟨(RS1.out.far (by omega) _ _).far (by omega) _ _, by rw [E0.out]; exact (L1.out.set 0 (.int .i64 2)).set 1 (.int .i64 2)⟩
 case rest =>
  obtain ⟨hrs, hl⟩ := hcut
  have RS2:=hide hrs
  have L2:=hide hl
  clear hrs hl RS1 L1 RS0
  obtain ⟨f0, f1, f2, f3⟩ := box3 RS2.out.d
  obtain ⟨m0, m1, m2', m3, m4, m5⟩ := box5 RS2.out.m
  have hbg:=RS2.out.big
  have hlt:=L2.out.lt
  have q1 : w.heap.size < wc.heap.size:=by omega
  have q2 : w.heap.size + 1 < wc.heap.size:=by omega
  go_wp2_with fail
  refine (forward_any d A B cp m cq (.int .i64 (d.lp : Int)) x _ hx (by omega) ((HG.out.keep (RS2.out.alloc _).bel).s)).mono ?_
  rintro e w2 ⟨rfl, hb2⟩
  have RS3:=hide ((RS2.out.alloc (.cells #[.int .i64 3, .int .i64 1] 86)).below hb2)
  have L3:=hide ((L2.out.alloc (.cells #[.int .i64 3, .int .i64 1] 86)).below hb2)
  have T3:=hide (show Row w2 wc.heap.size 86 [.int .i64 3, .int .i64 1] from (row_at (vs := [.int .i64 3, .int .i64 1]) rfl).below hb2)
  clear hb2 f0 f1 f2 f3 m0 m1 m2' m3 m4 m5
  obtain ⟨gt, hgt⟩ : ∃ gt, gt = wc.heap.size := ⟨_, rfl⟩
  rw [← hgt] at T3 hbg hlt ⊢
  clear hgt q1 q2 RS2 L2
  go_upto_if 24 with fail
  go_cut [25] (fun _ wx => RS w (.slice A d.n cp) (.slice B m cq) (.int .i64 (d.lp : Int)) (.int .i64 k) (.int .i64 x) (.int .i64 y) (.int .i64 sg) (.bool ov) wx ∧ Row wx (w.heap.size + 1 + 1 + 1 + 1) 86 [.int .i64 (l0 : Int), .int .i64 (l0 : Int)] ∧ Row wx gt 86 [.int .i64 (t0 : Int), .int .i64 (t1 : Int)])
  case first =>
   obtain ⟨a0, a1, a2⟩ := box2 T3.out
   cases hfx : fwd d x with
   | true =>
     have e0 : t0 = 3:=by rw [HT0.out]; unfold th0; rw [if_pos hfx]
     have e1 : t1 = 1:=by rw [HT1.out]; unfold th1; rw [if_pos hfx]
     have E0:=hide e0
     have E1:=hide e1
     clear e0 e1 hfx
     go_wp2_with fail
     go_meet
     exact ⟨RS3.out, L3.out, by rw [E0.out, E1.out]; exact T3.out⟩
   | false =>
     have e0 : t0 = 1:=by rw [HT0.out]; unfold th0; rw [if_neg (by rw [hfx]; decide)]
     have e1 : t1 = 3:=by rw [HT1.out]; unfold th1; rw [if_neg (by rw [hfx]; decide)]
     have E0:=hide e0
     have E1:=hide e1
     clear e0 e1 hfx
     go_wp2_with fail
     go_meet
     exact ⟨(RS3.out.far (by omega) _ _).far (by omega) _ _, (L3.out.other (by show _ ≠ gt; omega) _).other (by show _ ≠ gt; omega) _, by rw [E0.out, E1.out]; exact (T3.out.set 0 (.int .i64 1)).set 1 (.int .i64 3)⟩
  case rest =>
   obtain ⟨hrs, hl, ht⟩ := hcut
   have RS4:=hide hrs
   have L4:=hide hl
   have T4:=hide ht
   clear hrs hl ht RS3 L3 T3
   go_upto_region 7 with fail
   obtain ⟨gl, hgl⟩ : ∃ gl, gl = w.heap.size + 1 + 1 + 1 + 1 := ⟨_, rfl⟩
   rw [← hgl] at L4 hlt ⊢
   have hgl2 : w.heap.size + 1 + 1 + 1 < gl:=by omega
   have hgtl : gt ≠ gl:=by omega
   clear hgl
   obtain ⟨a0, a1, a2⟩ := box2 L4.out
   obtain ⟨b0, b1, b2⟩ := box2 T4.out
   have ll:=L4.out.lt
   have lt:=T4.out.lt
   go_cut [8, 9] (fun s8 s9 wx => ∃ gu go : Nat, s8 = .pointer (some ⟨gu, 0, none⟩) ∧ s9 = .pointer (some ⟨go, 0, none⟩) ∧ RS w (.slice A d.n cp) (.slice B m cq) (.int .i64 (d.lp : Int)) (.int .i64 k) (.int .i64 x) (.int .i64 y) (.int .i64 sg) (.bool ov) wx ∧ Row wx gl 86 [.int .i64 (l0 : Int), .int .i64 (l0 : Int)] ∧ Row wx gt 86 [.int .i64 (t0 : Int), .int .i64 (t1 : Int)] ∧ Row wx gu 86 [.int .i64 (t0 : Int), .int .i64 (t1 : Int)] ∧ Row wx go 86 [.int .i64 (l0 : Int), .int .i64 (l0 : Int)] ∧ gl < gu ∧ gt < gu ∧ gl < go ∧ gt < go ∧ gu ≠ go)
   case first =>
    go_region
    all_goals (go_wp2_with fail; go_meet)
    ·exact ⟨wc.heap.size, wc.heap.size + 1, rfl, rfl, ((RS4.out.alloc _).alloc _).drew, ((L4.out.alloc _).alloc _).drew, ((T4.out.alloc _).alloc _).drew, ((row_at (vs := [.int .i64 (t0 : Int), .int .i64 (t1 : Int)]) rfl).alloc _).drew, (row_at (vs := [.int .i64 (l0 : Int), .int .i64 (l0 : Int)]) (by simp)).drew, by omega, by omega, by omega, by omega, by omega⟩
    ·exact ⟨wc.heap.size + 1, wc.heap.size, rfl, rfl, ((RS4.out.alloc _).alloc _).drew, ((L4.out.alloc _).alloc _).drew, ((T4.out.alloc _).alloc _).drew, (row_at (vs := [.int .i64 (t0 : Int), .int .i64 (t1 : Int)]) (by simp)).drew, ((row_at (vs := [.int .i64 (l0 : Int), .int .i64 (l0 : Int)]) rfl).alloc _).drew, by omega, by omega, by omega, by omega, by omega⟩
   case rest =>
    obtain ⟨gu, go, rfl, rfl, hrs, hl, ht, hu, ho, i1, i2, i3, i4, i5⟩ := hcut
    have RS5:=hide hrs
    have L5:=hide hl
    have T5:=hide ht
    have U5:=hide hu
    have O5:=hide ho
    clear hrs hl ht hu ho a0 a1 a2 b0 b1 b2 RS4 L4 T4
    obtain ⟨u0, hu0⟩ : ∃ u, u = un0 d x y ov := ⟨_, rfl⟩
    obtain ⟨u1, hu1⟩ : ∃ u, u = un1 d x y ov := ⟨_, rfl⟩
    obtain ⟨o0, ho0⟩ : ∃ u, u = ov0 d x y ov := ⟨_, rfl⟩
    obtain ⟨o1, ho1⟩ : ∃ u, u = ov1 d x y ov := ⟨_, rfl⟩
    have U0:=hide hu0
    have U1:=hide hu1
    have O0:=hide ho0
    have O1:=hide ho1
    clear hu0 hu1 ho0 ho1
    obtain ⟨m0, m1, m2', m3, m4, m5⟩ := box5 RS5.out.m
    go_upto_if 29 with fail
    go_cut [30, 31] (fun _ _ wx => RS w (.slice A d.n cp) (.slice B m cq) (.int .i64 (d.lp : Int)) (.int .i64 k) (.int .i64 x) (.int .i64 y) (.int .i64 sg) (.bool ov) wx ∧ Row wx gu 86 [.int .i64 (u0 : Int), .int .i64 (u1 : Int)] ∧ Row wx go 86 [.int .i64 (o0 : Int), .int .i64 (o1 : Int)])
    case first =>
     clear m0 m1 m2' m3 m4 m5
     obtain ⟨a0, a1, a2⟩ := box2 L5.out
     obtain ⟨b0, b1, b2⟩ := box2 T5.out
     obtain ⟨c0, c1, c2⟩ := box2 U5.out
     obtain ⟨e0, e1, e2⟩ := box2 O5.out
     have z1 : gl ≠ gu:=by omega
     have z2 : gt ≠ gu:=by omega
     have z3 : gl ≠ go:=by omega
     have z4 : gt ≠ go:=by omega
     have z5 : go ≠ gu:=by omega
     cases ov with
     | true =>
       have V:=hide (show u0 = l0 ∧ u1 = l0 ∧ o0 = t0 ∧ o1 = t1 from ⟨by rw [U0.out, HL0.out]; rfl, by rw [U1.out, HL0.out]; rfl, by rw [O0.out, HT0.out]; rfl, by rw [O1.out, HT1.out]; rfl⟩)
       go_wp2_with fail
       go_region
       all_goals (go_wp2_with fail; go_meet)
       all_goals exact ⟨((((RS5.out.far (by omega) _ _).far (by omega) _ _).far (by omega) _ _).far (by omega) _ _).drew, by rw [V.out.1, V.out.2.1]; exact ((((U5.out.set 0 (.int .i64 (l0 : Int))).set 1 (.int .i64 (l0 : Int))).other (by show _ ≠ go; omega) _).other (by show _ ≠ go; omega) _).drew, by rw [V.out.2.2.1, V.out.2.2.2]; exact ((((O5.out.other (by show _ ≠ gu; omega) _).other (by show _ ≠ gu; omega) _).set 0 (.int .i64 (t0 : Int))).set 1 (.int .i64 (t1 : Int))).drew⟩
     | false =>
       have V:=hide (show u0 = t0 ∧ u1 = t1 ∧ o0 = l0 ∧ o1 = l0 from ⟨by rw [U0.out, HT0.out]; rfl, by rw [U1.out, HT1.out]; rfl, by rw [O0.out, HL0.out]; rfl, by rw [O1.out, HL0.out]; rfl⟩)
       go_wp2_with fail
       go_meet
       exact ⟨RS5.out, by rw [V.out.1, V.out.2.1]; exact U5.out, by rw [V.out.2.2.1, V.out.2.2.2]; exact O5.out⟩
    case rest =>
     obtain ⟨hrs, hu, ho⟩ := hcut
     have RS6:=hide hrs
     have U6:=hide hu
     have O6:=hide ho
     clear hrs hu ho RS5 L5 T5 U5 O5
     have u4 : u0 < 4 ∧ u1 < 4 ∧ o0 < 4 ∧ o1 < 4:=by
      rw [U0.out, U1.out, O0.out, O1.out]
      unfold un0 un1 ov0 ov1
      rw [← HL0.out, ← HT0.out, ← HT1.out]
      cases ov <;> simp <;> omega
     obtain ⟨v0, v1, v2, v3⟩ := u4
     have hbu:=U6.out.lt
     have hbo:=O6.out.lt
     have RS7:=hide (RS6.out.alloc (.cells #[.int .i64 0, .int .i64 0] 86))
     have U7:=hide (U6.out.alloc (.cells #[.int .i64 0, .int .i64 0] 86))
     have O7:=hide (O6.out.alloc (.cells #[.int .i64 0, .int .i64 0] 86))
     have S7:=hide (show Row (wc.alloc (.cells #[.int .i64 0, .int .i64 0] 86)) wc.heap.size 86 [.int .i64 0, .int .i64 0] from row_at (vs := [.int .i64 0, .int .i64 0]) rfl)
     go_wp2_with fail
     obtain ⟨gs, hgs⟩ : ∃ gs, gs = wc.heap.size := ⟨_, rfl⟩
     rw [← hgs] at S7 hbu hbo ⊢
     clear hgs RS6 U6 O6
     go_loopg [32] 2 (fun g i wx => ∃ k' : Nat, k' + g = 2 ∧ i = .int .i64 k' ∧ RS w (.slice A d.n cp) (.slice B m cq) (.int .i64 (d.lp : Int)) (.int .i64 k) (.int .i64 x) (.int .i64 y) (.int .i64 sg) (.bool ov) wx ∧ Row wx gu 86 [.int .i64 (u0 : Int), .int .i64 (u1 : Int)] ∧ Row wx go 86 [.int .i64 (o0 : Int), .int .i64 (o1 : Int)] ∧ Row wx gs 86 [.int .i64 (if 0 < k' then sgn2 u0 o0 else 0), .int .i64 (if 1 < k' then sgn2 u1 o1 else 0)])
     case atStart => exact ⟨0, rfl, rfl, RS7.out, U7.out, O7.out, by simpa using S7.out⟩
     case round =>
      clear RS7 U7 O7 S7
      obtain ⟨k', hkg, rfl, hrs, hu, ho, hs⟩ := hrel
      have HKG:=hide hkg
      have RG:=hide hrs
      have UG:=hide hu
      have OG:=hide ho
      have hk4 : k' = 0 ∨ k' = 1 ∨ k' = 2:=by omega
      clear hkg hrs hu ho
      rcases hk4 with rfl | rfl | rfl
      all_goals
       simp only [Nat.lt_irrefl, Nat.not_lt_zero, Nat.zero_lt_one, show (0 : Nat) < 2 by omega, show (1 : Nat) < 2 by omega, show ¬ (1 : Nat) < 0 by omega, if_true, if_false] at hs
       have SG:=hide hs
       clear hs
      ·obtain ⟨s0, s1, s2⟩ := box2 SG.out
       obtain ⟨c0, c1, c2⟩ := box2 UG.out
       obtain ⟨e0, e1, e2⟩ := box2 OG.out
       have z6 : gu ≠ gs:=by omega
       have z7 : go ≠ gs:=by omega
       go_upto_region 15 with fail
       go_quiet ((go_at_call 87; exact Calls.quiet_of_same (place_i 0 (u0 : Int) (o0 : Int) _ (by omega) (by omega) (by omega))))
       have ep : (plc (0 : Int).toNat (u0 : Int).toNat (o0 : Int).toNat) = plc 0 u0 o0:=by rw [Int.toNat_natCast, Int.toNat_natCast]; rfl
       rw [ep]
       have RSn:=hide (RS_drewN (RG.out.far (g := gs) (by omega) 0 (.int .i64 (-1))) nq)
       have Un:=hide (Row_drewN (UG.out.other (a := ⟨gs, 0, none⟩) z6 (.int .i64 (-1))) nq)
       have On:=hide (Row_drewN (OG.out.other (a := ⟨gs, 0, none⟩) z7 (.int .i64 (-1))) nq)
       have Sn:=hide (Row_drewN (SG.out.set 0 (.int .i64 (-1))) nq)
       clear ep s0 s1 s2 c0 c1 c2 e0 e1 e2 z6 z7
       obtain ⟨Wn, hWn⟩ : ∃ Wn, Wn = (wr.setCell ⟨gs, 0, none⟩ (.int .i64 (-1))).drewN nq := ⟨_, rfl⟩
       rw [← hWn] at RSn Un On Sn ⊢
       clear hWn
       obtain ⟨pp, hpp⟩ : ∃ pp, pp = plc 0 u0 o0 := ⟨_, rfl⟩
       rw [← hpp]
       have HPP:=hide hpp
       clear hpp
       obtain ⟨s0, s1, s2⟩ := box2 Sn.out
       by_cases h3 : pp = 3
       ·have t3 : ((pp : Int) == 3) = true:=by rw [beq_iff_eq]; omega
        have HS3:=hide (show sgn2 u0 o0 = 1 by unfold sgn2; rw [← HPP.out, if_pos h3])
        clear h3
        go_wp2_with fail
        go_roundg 1
        case measure => have := HKG.out; omega
        case rel => exact ⟨1, rfl, by go_num, RSn.out.far (by omega) _ _, Un.out.other (by show _ ≠ gs; omega) _, On.out.other (by show _ ≠ gs; omega) _, by simpa [HS3.out] using Sn.out.set 0 (.int .i64 1)⟩
       ·have t3 : ((pp : Int) == 3) = false:=by rw [beq_eq_false_iff_ne]; omega
        have HS3:=hide (show sgn2 u0 o0 = -1 by unfold sgn2; rw [← HPP.out, if_neg h3])
        clear h3
        go_wp2_with fail
        go_roundg 1
        case measure => have := HKG.out; omega
        case rel => exact ⟨1, rfl, by go_num, RSn.out, Un.out, On.out, by simpa [HS3.out] using Sn.out⟩
      ·obtain ⟨s0, s1, s2⟩ := box2 SG.out
       obtain ⟨c0, c1, c2⟩ := box2 UG.out
       obtain ⟨e0, e1, e2⟩ := box2 OG.out
       have z6 : gu ≠ gs:=by omega
       have z7 : go ≠ gs:=by omega
       go_upto_region 15 with fail
       go_quiet ((go_at_call 87; exact Calls.quiet_of_same (place_i 0 (u1 : Int) (o1 : Int) _ (by omega) (by omega) (by omega))))
       have ep : (plc (0 : Int).toNat (u1 : Int).toNat (o1 : Int).toNat) = plc 0 u1 o1:=by rw [Int.toNat_natCast, Int.toNat_natCast]; rfl
       rw [ep]
       have RSn:=hide (RS_drewN (RG.out.far (g := gs) (by omega) 1 (.int .i64 (-1))) nq)
       have Un:=hide (Row_drewN (UG.out.other (a := ⟨gs, 1, none⟩) z6 (.int .i64 (-1))) nq)
       have On:=hide (Row_drewN (OG.out.other (a := ⟨gs, 1, none⟩) z7 (.int .i64 (-1))) nq)
       have Sn:=hide (Row_drewN (SG.out.set 1 (.int .i64 (-1))) nq)
       clear ep s0 s1 s2 c0 c1 c2 e0 e1 e2 z6 z7
       obtain ⟨Wn, hWn⟩ : ∃ Wn, Wn = (wr.setCell ⟨gs, 1, none⟩ (.int .i64 (-1))).drewN nq := ⟨_, rfl⟩
       rw [← hWn] at RSn Un On Sn ⊢
       clear hWn
       obtain ⟨pp, hpp⟩ : ∃ pp, pp = plc 0 u1 o1 := ⟨_, rfl⟩
       rw [← hpp]
       have HPP:=hide hpp
       clear hpp
       obtain ⟨s0, s1, s2⟩ := box2 Sn.out
       by_cases h3 : pp = 3
       ·have t3 : ((pp : Int) == 3) = true:=by rw [beq_iff_eq]; omega
        have HS3:=hide (show sgn2 u1 o1 = 1 by unfold sgn2; rw [← HPP.out, if_pos h3])
        clear h3
        go_wp2_with fail
        go_roundg 0
        case measure => have := HKG.out; omega
        case rel => exact ⟨2, rfl, by go_num, RSn.out.far (by omega) _ _, Un.out.other (by show _ ≠ gs; omega) _, On.out.other (by show _ ≠ gs; omega) _, by simpa [HS3.out] using Sn.out.set 1 (.int .i64 1)⟩
       ·have t3 : ((pp : Int) == 3) = false:=by rw [beq_eq_false_iff_ne]; omega
        have HS3:=hide (show sgn2 u1 o1 = -1 by unfold sgn2; rw [← HPP.out, if_neg h3])
        clear h3
        go_wp2_with fail
        go_roundg 0
        case measure => have := HKG.out; omega
        case rel => exact ⟨2, rfl, by go_num, RSn.out, Un.out, On.out, by simpa [HS3.out] using Sn.out⟩
      ·go_wp2_with fail
       obtain ⟨s0, hs0⟩ : ∃ s0, s0 = sgn2 u0 o0 := ⟨_, rfl⟩
       obtain ⟨s1, hs1⟩ : ∃ s1, s1 = sgn2 u1 o1 := ⟨_, rfl⟩
       rw [← hs0, ← hs1] at SG
       have HS0:=hide hs0
       have HS1:=hide hs1
       clear hs0 hs1
       have RTG:=hide (show RT w (.slice A d.n cp) (.slice B m cq) (.int .i64 (d.lp : Int)) (.int .i64 k) (.int .i64 x) (.int .i64 y) (.int .i64 sg) (.bool ov) gu gs (.int .i64 (u0 : Int)) (.int .i64 (u1 : Int)) (.int .i64 s0) (.int .i64 s1) wr from ⟨RG.out, UG.out, SG.out, by omega, by omega⟩)
       have HGG:=hide (show DgAt (wr.alloc (.cells #[.int .i64 s0, .int .i64 s1] 3)).drew A B d from (HG.out.keep RG.out.bel).keep (((Below.refl _ _).alloc (Nat.le_refl _) _).drew))
       have HII:=hide (two_ints wr s0 s1)
       clear RG UG OG SG
       go_region_held3 (fun w' => w'.cell? ⟨w.heap.size, 0, none⟩ = some (.slice A d.n cp) ∧ w'.cell? ⟨w.heap.size, 1, none⟩ = some (.slice B m cq) ∧ w'.cell? ⟨w.heap.size, 2, none⟩ = some (.int .i64 (d.lp : Int)) ∧ w'.cell? ⟨gs, 0, none⟩ = some (.int .i64 s0) ∧ w'.cell? ⟨gs, 1, none⟩ = some (.int .i64 s1) ∧ w'.cell? ⟨gu, 0, none⟩ = some (.int .i64 (u0 : Int)) ∧ w'.cell? ⟨gu, 1, none⟩ = some (.int .i64 (u1 : Int)) ∧
        w'.cell? ⟨w.heap.size + 1 + 1, 0, none⟩ = some (cv w' ⟨w.heap.size + 1 + 1, 0, none⟩) ∧ w'.cell? ⟨w.heap.size + 1 + 1, 1, none⟩ = some (cv w' ⟨w.heap.size + 1 + 1, 1, none⟩) ∧ w'.cell? ⟨w.heap.size + 1 + 1, 2, none⟩ = some (cv w' ⟨w.heap.size + 1 + 1, 2, none⟩) ∧
        w'.cell? ⟨w.heap.size + 1 + 1 + 1, 0, none⟩ = some (cv w' ⟨w.heap.size + 1 + 1 + 1, 0, none⟩) ∧ w'.cell? ⟨w.heap.size + 1 + 1 + 1, 1, none⟩ = some (cv w' ⟨w.heap.size + 1 + 1 + 1, 1, none⟩) ∧
        (∀ o, w'.frozen? ⟨w.heap.size + 1 + 1, o, none⟩ = false) ∧ (∀ o, w'.frozen? ⟨w.heap.size + 1 + 1 + 1, o, none⟩ = false) ∧ RT w (.slice A d.n cp) (.slice B m cq) (.int .i64 (d.lp : Int)) (.int .i64 k) (.int .i64 x) (.int .i64 y) (.int .i64 sg) (.bool ov) gu gs (.int .i64 (u0 : Int)) (.int .i64 (u1 : Int)) (.int .i64 s0) (.int .i64 s1) w')
        ((go_split_ands; refine RT.all ?_; (repeat (first | (with_reducible assumption) | (with_reducible exact RTG.out) | (with_reducible refine RT.setD ?_ _ _) | (with_reducible refine RT.setA ?_ _ _) | (with_reducible refine RT.alloc ?_ _) | (with_reducible refine RT.drew ?_) | (with_reducible refine RT.below ?_ hb6)))))
        (first
          | (go_at_call 78
             refine Calls.mono (grown_any d A B cp cq 2 2 wr.heap.size m 8 [s0, s1] _ HM.out rfl ?_ ?_ (by omega) (by omega) (by omega)) ?_
             ·exact HGG.out
             ·exact HII.out
             rintro e w6 ⟨g1, c1, g2, c2, rfl, own1, own2, hne, hb6⟩
             have OWN1:=hide own1
             have OWN2:=hide own2
             clear own1 own2))
       all_goals
        have RT6:=hide (show RT w (.slice A d.n cp) (.slice B m cq) (.int .i64 (d.lp : Int)) (.int .i64 k) (.int .i64 x) (.int .i64 y) (.int .i64 sg) (.bool ov) gu gs (.int .i64 (u0 : Int)) (.int .i64 (u1 : Int)) (.int .i64 s0) (.int .i64 s1) w6 from by
         repeat (first | (with_reducible assumption) | (with_reducible exact RTG.out) | (with_reducible refine RT.alloc ?_ _) | (with_reducible refine RT.drew ?_) | (with_reducible refine RT.below ?_ hb6)))
        go_wp2
        obtain ⟨vs6, r6, l6⟩ := RT6.out.rs.rd
        obtain ⟨us6, t6, k6⟩ := RT6.out.rs.ra
        have hbw:=RTG.out.rs.big
        refine bodyPost_ret (v := .tuple #[.agg #[.slice (some ⟨g1, 0, none⟩) (d.n + 2) c1, .slice (some ⟨g2, 0, none⟩) (m + 8) c2, .int .i64 (d.lp : Int)], .agg #[.int .i64 (u0 : Int), .int .i64 (u1 : Int)]]) ?_ rfl ?_
        ·obtain ⟨e0, e1, e2, e3, e4⟩ := fin5 r6 t6 l6 k6 (by omega) (.slice (some ⟨g1, 0, none⟩) (d.n + 2) c1) (.slice (some ⟨g2, 0, none⟩) (m + 8) c2) (.int .i64 (d.lp : Int)) (.int .i64 (u0 : Int)) (.int .i64 (u1 : Int))
         simp [results, Try.results85, go_sem, e0, e1, e2, e3, e4]
        ·have hbase : w.heap.size + 1 + 1 + 1 < (wr.alloc (.cells #[.int .i64 s0, .int .i64 s1] 3)).drew.heap.size:=by simp; omega
         refine ⟨g1, c1, g2, c2, ?_, ?_, ?_, hne, ?_⟩
         ·rw [← U0.out, ← U1.out, HM.out]
         ·rw [← U0.out, ← U1.out, ← O0.out, ← O1.out, ← HS0.out, ← HS1.out]
          exact own_base (ownsRow_setCell_below (ownsRow_setCell_below (ownsRow_setCell_below (ownsRow_setCell_below (ownsRow_setCell_below OWN1.out (by show w.heap.size + 1 + 1 < _; omega) _) (by show w.heap.size + 1 + 1 < _; omega) _) (by show w.heap.size + 1 + 1 < _; omega) _) (by show w.heap.size + 1 + 1 + 1 < _; omega) _) (by show w.heap.size + 1 + 1 + 1 < _; omega) _) (by omega)
         ·rw [← HM.out]
          exact own_base (ownsRow_setCell_below (ownsRow_setCell_below (ownsRow_setCell_below (ownsRow_setCell_below (ownsRow_setCell_below OWN2.out (by show w.heap.size + 1 + 1 < _; omega) _) (by show w.heap.size + 1 + 1 < _; omega) _) (by show w.heap.size + 1 + 1 < _; omega) _) (by show w.heap.size + 1 + 1 + 1 < _; omega) _) (by show w.heap.size + 1 + 1 + 1 < _; omega) _) (by omega)
         ·exact ((((RT6.out.rs.bel.setCell (by show _ ≤ w.heap.size + 1 + 1; omega) _).setCell (by show _ ≤ w.heap.size + 1 + 1; omega) _).setCell (by show _ ≤ w.heap.size + 1 + 1; omega) _).setCell (by show _ ≤ w.heap.size + 1 + 1 + 1; omega) _).setCell (by show _ ≤ w.heap.size + 1 + 1 + 1; omega) _
end Go.Proofs.Ytobbepmlmbbamaa
end
section
namespace Go.Proofs.Ytobbepmlmbbamaa
open Go Go.RowKit
def lpv (d : Pl.Dg) (h : Nat) : Int := if Pl.out d h then -2 else -1
def oldv (d : Pl.Dg) (x y h : Nat) : Int := (Pl.shf [x, y] (d.m h) : Nat)
theorem loopF_any (d : Pl.Dg) (hd : Pl.Wf d) (A B : Option Addr) (cp cq m g h : Nat) (w : World) (hr : Row w g 24 [.slice A d.n cp, .slice B m cq, .int .i64 (d.lp : Int)]) (hg : DgAt w A B d) (hh : h < 4 * d.n) :
 Calls Try.prog 127 #[.int .i64 (h : Int), .pointer (some ⟨g, 0, none⟩)] w fun e w' => e = .returned (.int .i64 (lpv d h)) ∧ Below w.heap.size w w' := by
 obtain ⟨d0, d1, d2, d3⟩ := box3 hr
 have hn:=hd.few
 go_enter Try.func127, Try.ntmps127
 go_wp2_with fail
 refine (out2_n d A B d.n cp m cq (.int .i64 (d.lp : Int)) h _ rfl hh (by omega) hg.s).mono ?_
 rintro e w1 ⟨rfl, hb1⟩
 cases ho : Pl.out d h with
 | true =>
   have E:=hide (show lpv d h = -2 by unfold lpv; rw [ho]; rfl)
   clear ho
   go_wp2
   go_ret
   exact ⟨ret_int E.out.symm, hb1⟩
 | false =>
   have E:=hide (show lpv d h = -1 by unfold lpv; rw [ho]; rfl)
   clear ho
   go_wp2
   go_ret
   exact ⟨ret_int E.out.symm, hb1⟩
set_option maxRecDepth 100000 in
set_option maxHeartbeats 1000000 in
theorem oldF_any (d : Pl.Dg) (hd : Pl.Wf d) (A B : Option Addr) (cp cq m g gm x y h : Nat) (k sg : Int) (ov : Bool) (w : World) (hm : m = 4 * d.n) (hr : Row w g 24 [.slice A d.n cp, .slice B m cq, .int .i64 (d.lp : Int)]) (hrm : Row w gm 28 [.int .i64 k, .int .i64 (x : Int), .int .i64 (y : Int), .int .i64 sg, .bool ov]) (hg : DgAt w A B d) (hh : h < 4 * d.n) (hxy : x < y) :
 Calls Try.prog 128 #[.int .i64 (h : Int), .pointer (some ⟨g, 0, none⟩), .pointer (some ⟨gm, 0, none⟩)] w fun e w' => e = .returned (.int .i64 (oldv d x y h)) ∧ Below w.heap.size w w' := by
 obtain ⟨d0, d1, d2, d3⟩ := box3 hr
 obtain ⟨m0, m1, m2, m3, m4, m5⟩ := box5 hrm
 have hn:=hd.few
 have l1:=hr.lt
 have l2:=hrm.lt
 have hmh : h < m:=by omega
 have ih0 : (0 : Int) ≤ (h : Int):=by omega
 have ih1 : (h : Int) < (m : Int):=by omega
 obtain ⟨mb, mo, rfl, cm⟩ := mate_at hg.m hh
 have l3 : mb < w.heap.size:=lt_of_cell cm
 have hmm:=hd.lt h hh
 have E:=hide (show oldv d x y h = (Pl.shf [x, y] (d.m h) : Nat) from rfl)
 obtain ⟨u, hu⟩ : ∃ u, u = d.m h := ⟨_, rfl⟩
 rw [← hu] at cm hmm E
 clear hu
 have HM:=hide hm
 have HG:=hide hg
 clear hm hg hr hrm
 go_enter Try.func128, Try.ntmps128
 go_wp2_with fail
 go_region_held3 (fun w' => w'.cell? ⟨g, 1, none⟩ = some (.slice (some ⟨mb, mo, none⟩) m cq) ∧ w'.cell? ⟨mb, mo + h, none⟩ = some (.int .i64 (u : Int)) ∧ w'.cell? ⟨gm, 1, none⟩ = some (.int .i64 (x : Int)) ∧ w'.cell? ⟨gm, 2, none⟩ = some (.int .i64 (y : Int)))
  (first | go_keep | assumption | (exact ⟨by simpa [l1] using d1, by simpa [l3] using cm, by simpa [l2] using m1, by simpa [l2] using m2⟩))
  (first
    | (go_at_call 82
       refine Calls.mono (shifted_any [x, y] (some ⟨w.heap.size, 0, none⟩) 2 2 u _ (by exact two_ints w (x : Int) (y : Int)) (by omega) (by omega) (Pl.few_two hxy)) ?_
       rintro e w4 ⟨rfl, rfl⟩))
 all_goals
  go_wp2
  go_ret
  refine ⟨ret_int ?_, ?_⟩
  ·rw [E.out]
  ·exact ((Below.refl _ _).alloc (Nat.le_refl _) _).drew
end Go.Proofs.Ytobbepmlmbbamaa
end
section
namespace Go.Proofs.Ytobbepmlmbbamaa
open Go Go.RowKit
attribute [local go_sem ↓] Go.wp_at_zero Go.wp_at_succ
structure Ln where
 p0 : Nat
 p1 : Nat
 p2 : Nat
 p3 : Nat
 q0 : Nat
 q1 : Nat
 q2 : Nat
 q3 : Nat
def Ln.cells (l : Ln) : List Value := [.int .i64 (l.p0 : Int), .int .i64 (l.p1 : Int), .int .i64 (l.p2 : Int), .int .i64 (l.p3 : Int), .int .i64 (l.q0 : Int), .int .i64 (l.q1 : Int), .int .i64 (l.q2 : Int), .int .i64 (l.q3 : Int)]
def lensOf (d : Pl.Dg) (h : Nat) : Ln := ⟨h, d.m (Pl.nx d h), Pl.tn h 2, Pl.tn (d.m (Pl.nx d h)) 2, Pl.tn (d.m h) 2, Pl.nx d h, d.m h, Pl.tn (Pl.nx d h) 2⟩
theorem lensOf_v (d : Pl.Dg) (h : Nat) : lensV d h = .agg (lensOf d h).cells.toArray := rfl
def pusX (d : Pl.Dg) (l : Ln) (x y : Nat) : Int :=
 if d.m l.q3 = l.q0 then (if d.m l.p2 = l.p3 then lpv d l.p3 else oldv d x y l.p3)
 else if d.m l.p2 = l.p3 then oldv d x y l.q0 else if d.m l.p3 = l.q3 then lpv d l.p3 else oldv d x y l.p3
def pusY (d : Pl.Dg) (l : Ln) (x y : Nat) : Int :=
 if d.m l.q3 = l.q0 then (if d.m l.p2 = l.p3 then lpv d l.p3 else oldv d x y l.p3)
 else if d.m l.p2 = l.p3 then oldv d x y l.q0 else if d.m l.q0 = l.p2 then lpv d l.q0 else oldv d x y l.q0
def pusS (d : Pl.Dg) (l : Ln) : Int := if d.m l.q3 = l.q0 then 1 else if d.m l.p2 = l.p3 then -1 else 0
def pusI (d : Pl.Dg) (l : Ln) (x y : Nat) : Mv := ⟨3, pusX d l x y, pusY d l x y, pusS d l, decide (l.q1 % 2 = 1)⟩
structure PV (w : World) (gi : Nat) (dv lv mv iv : List Value) (W : World) : Prop where
 d : Row W w.heap.size 24 dv
 l : Row W (w.heap.size + 1) 93 lv
 m : Row W (w.heap.size + 1 + 1) 28 mv
 r : ∃ us, Row W (w.heap.size + 1 + 1 + 1) 28 us ∧ us.length = 5
 i : Row W gi 28 iv
 bel : Below w.heap.size w W
 lo : w.heap.size + 1 + 1 + 1 < gi
section
variable {w W W' : World} {gi : Nat} {dv lv mv iv : List Value}
theorem PV.drew (h : PV w gi dv lv mv iv W) : PV w gi dv lv mv iv W.drew := ⟨h.d, h.l, h.m, h.r, h.i, h.bel.drew, h.lo⟩
theorem PV.drewN (h : PV w gi dv lv mv iv W) (n : Nat) : PV w gi dv lv mv iv (W.drewN n) := ⟨h.d, h.l, h.m, h.r, h.i, below_drewN h.bel n, h.lo⟩
theorem PV.below (h : PV w gi dv lv mv iv W) (hb : Below W.heap.size W W') : PV w gi dv lv mv iv W' :=
 let ⟨us, r2, l2⟩ := h.r
 ⟨h.d.below hb, h.l.below hb, h.m.below hb, ⟨us, r2.below hb, l2⟩, h.i.below hb, h.bel.trans (hb.mono h.bel.size), h.lo⟩
theorem PV.set (h : PV w gi dv lv mv iv W) (o : Nat) (v : Value) : PV w gi dv lv mv (iv.set o v) (W.setCell ⟨gi, o, none⟩ v) :=
 have a:=h.lo
 let ⟨us, r2, l2⟩ := h.r
 ⟨h.d.other (by show _ ≠ gi; omega) v, h.l.other (by show _ ≠ gi; omega) v, h.m.other (by show _ ≠ gi; omega) v, ⟨us, r2.other (by show _ ≠ gi; omega) v, l2⟩, h.i.set o v, h.bel.setCell (by show _ ≤ gi; omega) v, h.lo⟩
end
def PW (w : World) (gi : Nat) (dv lv mv : List Value) (a s e : Value) (W : World) : Prop := ∃ b c, PV w gi dv lv mv [a, b, c, s, e] W
section
variable {w W W' : World} {gi : Nat} {dv lv mv : List Value} {a s e : Value}
theorem PW.drew (h : PW w gi dv lv mv a s e W) : PW w gi dv lv mv a s e W.drew := let ⟨b, c, h⟩ := h; ⟨b, c, h.drew⟩
theorem PW.below (h : PW w gi dv lv mv a s e W) (hb : Below W.heap.size W W') : PW w gi dv lv mv a s e W' := let ⟨b, c, h⟩ := h; ⟨b, c, h.below hb⟩
theorem PW.set1 (h : PW w gi dv lv mv a s e W) (v : Value) : PW w gi dv lv mv a s e (W.setCell ⟨gi, 1, none⟩ v) := let ⟨_, c, h⟩ := h; ⟨v, c, h.set 1 v⟩
theorem PW.set2 (h : PW w gi dv lv mv a s e W) (v : Value) : PW w gi dv lv mv a s e (W.setCell ⟨gi, 2, none⟩ v) := let ⟨b, _, h⟩ := h; ⟨b, v, h.set 2 v⟩
theorem PW.fin (h : PW w gi dv lv mv a s e W) (v u : Value) : PV w gi dv lv mv [a, v, u, s, e] ((W.setCell ⟨gi, 1, none⟩ v).setCell ⟨gi, 2, none⟩ u) := let ⟨_, _, h⟩ := h; (h.set 1 v).set 2 u
theorem PW.all {l0 l1 l2 l3 l4 l5 l6 l7 : Value} (h : PW w gi dv [l0, l1, l2, l3, l4, l5, l6, l7] mv a s e W) : W.cell? ⟨w.heap.size + 1, 3, none⟩ = some l3 ∧ W.cell? ⟨w.heap.size + 1, 4, none⟩ = some l4 ∧ W.cell? ⟨gi, 1, none⟩ = some (cv W ⟨gi, 1, none⟩) ∧ W.cell? ⟨gi, 2, none⟩ = some (cv W ⟨gi, 2, none⟩) ∧ (∀ o, W.frozen? ⟨gi, o, none⟩ = false) ∧ PW w gi dv [l0, l1, l2, l3, l4, l5, l6, l7] mv a s e W := by
 have h':=h
 obtain ⟨b, c, h⟩ := h
 obtain ⟨_, _, _, e3, e4, _⟩ := box8 h.l
 obtain ⟨_, f1, f2, _, _, ff⟩ := box5 h.i
 exact ⟨e3, e4, cv_some f1, cv_some f2, ff, h'⟩
end
theorem row5 {W : World} {g : Nat} {t : TypeId} {vs : List Value} (h : Row W g t vs) (l : vs.length = 5) (y0 y1 y2 y3 y4 : Value) :
 Row (((((W.setCell ⟨g, 0, none⟩ y0).setCell ⟨g, 1, none⟩ y1).setCell ⟨g, 2, none⟩ y2).setCell ⟨g, 3, none⟩ y3).setCell ⟨g, 4, none⟩ y4) g t [y0, y1, y2, y3, y4] := by
 obtain ⟨a, b, c, d, e, rfl⟩ : ∃ a b c d e, vs = [a, b, c, d, e] := by
  match vs, l with
  | [a, b, c, d, e], _ => exact ⟨a, b, c, d, e, rfl⟩
 exact ((((h.set 0 y0).set 1 y1).set 2 y2).set 3 y3).set 4 y4
def PusPost (d : Pl.Dg) (l : Ln) (x y : Nat) (w : World) (e : Ending) (w' : World) : Prop := e = .returned (pusI d l x y).v ∧ Below w.heap.size w w'
set_option maxRecDepth 100000 in
set_option maxHeartbeats 4000000 in
theorem pushed_any (d : Pl.Dg) (hd : Pl.Wf d) (A B : Option Addr) (cp cq m x y : Nat) (k sg : Int) (ov : Bool) (l : Ln) (w : World) (hm : m = 4 * d.n) (hg : DgAt w A B d) (hxy : x < y)
 (h2 : l.p2 < 4 * d.n) (h3 : l.p3 < 4 * d.n) (k0 : l.q0 < 4 * d.n) (k3 : l.q3 < 4 * d.n) (k1 : l.q1 < 4 * d.n) :
 Calls Try.prog 93 #[.agg #[.slice A d.n cp, .slice B m cq, .int .i64 d.lp], .agg l.cells.toArray, .agg #[.int .i64 k, .int .i64 (x : Int), .int .i64 (y : Int), .int .i64 sg, .bool ov]] w (PusPost d l x y w) := by
 obtain ⟨p0, p1, p2, p3, q0, q1, q2, q3⟩ := l
 simp only at h2 h3 k0 k3 k1
 have hn:=hd.few
 have HM:=hide hm
 have HG:=hide hg
 have hm2 : m ≤ 256:=by omega
 obtain ⟨g0, hg0⟩ : ∃ g0, g0 = w.heap.size + 1 + 1 + 1 + 1 := ⟨_, rfl⟩
 have V0:=hide (show PV w g0 [.slice A d.n cp, .slice B m cq, .int .i64 (d.lp : Int)] [.int .i64 (p0 : Int), .int .i64 (p1 : Int), .int .i64 (p2 : Int), .int .i64 (p3 : Int), .int .i64 (q0 : Int), .int .i64 (q1 : Int), .int .i64 (q2 : Int), .int .i64 (q3 : Int)] [.int .i64 k, .int .i64 (x : Int), .int .i64 (y : Int), .int .i64 sg, .bool ov] [.int .i64 3, .int .i64 0, .int .i64 0, .int .i64 0, .bool ((q1 : Int) % 2 == 1)]
  (((((w.alloc (.cells #[.slice A d.n cp, .slice B m cq, .int .i64 (d.lp : Int)] 24)).alloc (.cells #[.int .i64 (p0 : Int), .int .i64 (p1 : Int), .int .i64 (p2 : Int), .int .i64 (p3 : Int), .int .i64 (q0 : Int), .int .i64 (q1 : Int), .int .i64 (q2 : Int), .int .i64 (q3 : Int)] 93)).alloc (.cells #[.int .i64 k, .int .i64 (x : Int), .int .i64 (y : Int), .int .i64 sg, .bool ov] 28)).alloc (.cells #[.int .i64 0, .int .i64 0, .int .i64 0, .int .i64 0, .bool false] 28)).alloc (.cells #[.int .i64 3, .int .i64 0, .int .i64 0, .int .i64 0, .bool ((q1 : Int) % 2 == 1)] 28)) by
  refine ⟨((((row_at (vs := [_, _, _]) rfl).alloc _).alloc _).alloc _).alloc _, (((row_at (vs := [_, _, _, _, _, _, _, _]) (by simp)).alloc _).alloc _).alloc _, ((row_at (vs := [_, _, _, _, _]) (by simp)).alloc _).alloc _, ⟨[_, _, _, _, _], (row_at (vs := [_, _, _, _, _]) (by simp)).alloc _, rfl⟩, row_at (vs := [_, _, _, _, _]) (by rw [hg0]; simp), ?_, by omega⟩
  exact (((((Below.refl _ _).alloc (Nat.le_refl _) _).alloc (by simp) _).alloc (by simp; omega) _).alloc (by simp; omega) _).alloc (by simp; omega) _)
 clear hm hg
 unfold Ln.cells
 go_enter Try.func93, Try.ntmps93
 go_wp2_with fail
 rw [← hg0]
 clear hg0
 obtain ⟨bb, hbb⟩ : ∃ bb : Bool, bb = ((q1 : Int) % 2 == 1) := ⟨_, rfl⟩
 rw [← hbb] at V0 ⊢
 have HBB:=hide (show bb = decide (q1 % 2 = 1) by rw [hbb, Bool.eq_iff_iff]; simp; omega)
 clear hbb
 obtain ⟨mb, mo, rfl, _⟩ := mate_at (HG.out).m k3
 obtain ⟨W0, hW0⟩ : ∃ W0 : World, W0 = (((((w.alloc (.cells #[.slice A d.n cp, .slice (some ⟨mb, mo, none⟩) m cq, .int .i64 (d.lp : Int)] 24)).alloc (.cells #[.int .i64 (p0 : Int), .int .i64 (p1 : Int), .int .i64 (p2 : Int), .int .i64 (p3 : Int), .int .i64 (q0 : Int), .int .i64 (q1 : Int), .int .i64 (q2 : Int), .int .i64 (q3 : Int)] 93)).alloc (.cells #[.int .i64 k, .int .i64 (x : Int), .int .i64 (y : Int), .int .i64 sg, .bool ov] 28)).alloc (.cells #[.int .i64 0, .int .i64 0, .int .i64 0, .int .i64 0, .bool false] 28)).alloc (.cells #[.int .i64 3, .int .i64 0, .int .i64 0, .int .i64 0, .bool bb] 28)) := ⟨_, rfl⟩
 rw [← hW0] at V0 ⊢
 clear hW0
 have c3 : ∀ W, Below w.heap.size w W → W.cell? ⟨mb, mo + q3, none⟩ = some (.int .i64 (d.m q3 : Nat)):=fun W hb => by
  obtain ⟨b', o', e, c⟩ := mate_at (HG.out.keep hb).m k3
  injection e with e; injection e with e1 e2; subst e1; subst e2; exact c
 have c2 : ∀ W, Below w.heap.size w W → W.cell? ⟨mb, mo + p2, none⟩ = some (.int .i64 (d.m p2 : Nat)):=fun W hb => by
  obtain ⟨b', o', e, c⟩ := mate_at (HG.out.keep hb).m h2
  injection e with e; injection e with e1 e2; subst e1; subst e2; exact c
 have c5 : ∀ W, Below w.heap.size w W → W.cell? ⟨mb, mo + p3, none⟩ = some (.int .i64 (d.m p3 : Nat)):=fun W hb => by
  obtain ⟨b', o', e, c⟩ := mate_at (HG.out.keep hb).m h3
  injection e with e; injection e with e1 e2; subst e1; subst e2; exact c
 have c0 : ∀ W, Below w.heap.size w W → W.cell? ⟨mb, mo + q0, none⟩ = some (.int .i64 (d.m q0 : Nat)):=fun W hb => by
  obtain ⟨b', o', e, c⟩ := mate_at (HG.out.keep hb).m k0
  injection e with e; injection e with e1 e2; subst e1; subst e2; exact c
 have EX:=hide (show pusI d ⟨p0, p1, p2, p3, q0, q1, q2, q3⟩ x y = ⟨3, (if d.m q3 = q0 then (if d.m p2 = p3 then lpv d p3 else oldv d x y p3) else if d.m p2 = p3 then oldv d x y q0 else if d.m p3 = q3 then lpv d p3 else oldv d x y p3),
  (if d.m q3 = q0 then (if d.m p2 = p3 then lpv d p3 else oldv d x y p3) else if d.m p2 = p3 then oldv d x y q0 else if d.m q0 = p2 then lpv d q0 else oldv d x y q0), (if d.m q3 = q0 then 1 else if d.m p2 = p3 then -1 else 0), bb⟩ by rw [HBB.out]; rfl)
 obtain ⟨a3, ha3⟩ : ∃ a, a = d.m q3 := ⟨_, rfl⟩
 obtain ⟨a2, ha2⟩ : ∃ a, a = d.m p2 := ⟨_, rfl⟩
 obtain ⟨a5, ha5⟩ : ∃ a, a = d.m p3 := ⟨_, rfl⟩
 obtain ⟨a0, ha0⟩ : ∃ a, a = d.m q0 := ⟨_, rfl⟩
 rw [← ha3] at c3 EX
 rw [← ha2] at c2 EX
 rw [← ha5] at c5 EX
 rw [← ha0] at c0 EX
 clear ha3 ha2 ha5 ha0
 have C3:=hide c3
 have C2:=hide c2
 have C5:=hide c5
 have C0:=hide c0
 clear c3 c2 c5 c0
 obtain ⟨XX, hXX⟩ : ∃ X, X = (if a3 = q0 then (if a2 = p3 then lpv d p3 else oldv d x y p3) else if a2 = p3 then oldv d x y q0 else if a5 = q3 then lpv d p3 else oldv d x y p3) := ⟨_, rfl⟩
 obtain ⟨YY, hYY⟩ : ∃ Y, Y = (if a3 = q0 then (if a2 = p3 then lpv d p3 else oldv d x y p3) else if a2 = p3 then oldv d x y q0 else if a0 = p2 then lpv d q0 else oldv d x y q0) := ⟨_, rfl⟩
 obtain ⟨SS, hSS⟩ : ∃ S : Int, S = (if a3 = q0 then 1 else if a2 = p3 then -1 else 0) := ⟨_, rfl⟩
 rw [← hXX, ← hYY, ← hSS] at EX
 have HXX:=hide hXX
 have HYY:=hide hYY
 have HSS:=hide hSS
 clear hXX hYY hSS
 have i3 : (0 : Int) ≤ (p3 : Int) ∧ (p3 : Int) < (m : Int):=by have := HM.out; omega
 have i2 : (0 : Int) ≤ (p2 : Int) ∧ (p2 : Int) < (m : Int):=by have := HM.out; omega
 have j0 : (0 : Int) ≤ (q0 : Int) ∧ (q0 : Int) < (m : Int):=by have := HM.out; omega
 have j3 : (0 : Int) ≤ (q3 : Int) ∧ (q3 : Int) < (m : Int):=by have := HM.out; omega
 obtain ⟨i31, i32⟩ := i3
 obtain ⟨i21, i22⟩ := i2
 obtain ⟨j01, j02⟩ := j0
 obtain ⟨j31, j32⟩ := j3
 obtain ⟨d0, d1, d2, d3⟩ := box3 V0.out.d
 obtain ⟨l0, l1, l2, l3, l4, l5, l6, l7, l8⟩ := box8 V0.out.l
 have c3:=C3.out W0 V0.out.bel
 have c2:=C2.out W0 V0.out.bel
 go_quiet (fail)
 have V1:=hide (V0.out.drewN nq)
 obtain ⟨W1, hW1⟩ : ∃ W1 : World, W1 = W0.drewN nq := ⟨_, rfl⟩
 rw [← hW1] at V1 ⊢
 clear hW1 d0 d1 d2 d3 l0 l1 l2 l3 l4 l5 l6 l7 l8 c3 c2
 obtain ⟨d0, d1, d2, d3⟩ := box3 V1.out.d
 obtain ⟨l0, l1, l2, l3, l4, l5, l6, l7, l8⟩ := box8 V1.out.l
 have c3:=C3.out W1 V1.out.bel
 have c2:=C2.out W1 V1.out.bel
 go_wp2_with fail
 go_quiet (fail)
 have V2:=hide (V1.out.drewN nq)
 obtain ⟨W2, hW2⟩ : ∃ W2 : World, W2 = W1.drewN nq := ⟨_, rfl⟩
 rw [← hW2] at V2 ⊢
 clear hW2 d0 d1 d2 d3 l0 l1 l2 l3 l4 l5 l6 l7 l8 c3 c2
 go_upto_block 0 with fail
 go_cut [10, 11] (fun _ _ wx => PV w g0 [.slice A d.n cp, .slice (some ⟨mb, mo, none⟩) m cq, .int .i64 (d.lp : Int)] [.int .i64 (p0 : Int), .int .i64 (p1 : Int), .int .i64 (p2 : Int), .int .i64 (p3 : Int), .int .i64 (q0 : Int), .int .i64 (q1 : Int), .int .i64 (q2 : Int), .int .i64 (q3 : Int)] [.int .i64 k, .int .i64 (x : Int), .int .i64 (y : Int), .int .i64 sg, .bool ov] [.int .i64 3, .int .i64 XX, .int .i64 YY, .int .i64 SS, .bool bb] wx)
 case first =>
  by_cases e1 : a3 = q0
  ·have t1 : ((a3 : Int) == (q0 : Int)) = true:=by rw [beq_iff_eq]; omega
   by_cases e2 : a2 = p3
   ·have t2 : ((a2 : Int) == (p3 : Int)) = true:=by rw [beq_iff_eq]; omega
    have F:=hide (show XX = lpv d p3 ∧ YY = lpv d p3 ∧ SS = 1 from ⟨by rw [HXX.out, if_pos e1, if_pos e2], by rw [HYY.out, if_pos e1, if_pos e2], by rw [HSS.out, if_pos e1]⟩)
    clear e1 e2
    obtain ⟨l0, l1, l2, l3, l4, l5, l6, l7, l8⟩ := box8 V2.out.l
    go_wp2_with fail
    refine (loopF_any d hd A (some ⟨mb, mo, none⟩) cp cq m w.heap.size p3 W2 V2.out.d (HG.out.keep V2.out.bel) h3).mono ?_
    rintro e W3 ⟨rfl, hb3⟩
    have V3:=hide (V2.out.below hb3)
    clear hb3 l0 l1 l2 l3 l4 l5 l6 l7 l8
    obtain ⟨v0, v1, v2, v3, v4, v5⟩ := box5 V3.out.i
    go_wp2_with fail
    go_meet
    rw [F.out.1, F.out.2.1, F.out.2.2]
    exact ((V3.out.set 1 _).set 3 _).set 2 _
   ·have t2 : ((a2 : Int) == (p3 : Int)) = false:=by rw [beq_eq_false_iff_ne]; omega
    have F:=hide (show XX = oldv d x y p3 ∧ YY = oldv d x y p3 ∧ SS = 1 from ⟨by rw [HXX.out, if_pos e1, if_neg e2], by rw [HYY.out, if_pos e1, if_neg e2], by rw [HSS.out, if_pos e1]⟩)
    clear e1 e2
    obtain ⟨l0, l1, l2, l3, l4, l5, l6, l7, l8⟩ := box8 V2.out.l
    go_wp2_with fail
    refine (oldF_any d hd A (some ⟨mb, mo, none⟩) cp cq m w.heap.size (w.heap.size + 1 + 1) x y p3 k sg ov W2 HM.out V2.out.d V2.out.m (HG.out.keep V2.out.bel) h3 hxy).mono ?_
    rintro e W3 ⟨rfl, hb3⟩
    have V3:=hide (V2.out.below hb3)
    clear hb3 l0 l1 l2 l3 l4 l5 l6 l7 l8
    obtain ⟨v0, v1, v2, v3, v4, v5⟩ := box5 V3.out.i
    go_wp2_with fail
    go_meet
    rw [F.out.1, F.out.2.1, F.out.2.2]
    exact ((V3.out.set 1 _).set 3 _).set 2 _
  ·have t1 : ((a3 : Int) == (q0 : Int)) = false:=by rw [beq_eq_false_iff_ne]; omega
   by_cases e2 : a2 = p3
   ·have t2 : ((a2 : Int) == (p3 : Int)) = true:=by rw [beq_iff_eq]; omega
    have F:=hide (show XX = oldv d x y q0 ∧ YY = oldv d x y q0 ∧ SS = -1 from ⟨by rw [HXX.out, if_neg e1, if_pos e2], by rw [HYY.out, if_neg e1, if_pos e2], by rw [HSS.out, if_neg e1, if_pos e2]⟩)
    clear e1 e2
    obtain ⟨l0, l1, l2, l3, l4, l5, l6, l7, l8⟩ := box8 V2.out.l
    go_wp2_with fail
    refine (oldF_any d hd A (some ⟨mb, mo, none⟩) cp cq m w.heap.size (w.heap.size + 1 + 1) x y q0 k sg ov W2 HM.out V2.out.d V2.out.m (HG.out.keep V2.out.bel) k0 hxy).mono ?_
    rintro e W3 ⟨rfl, hb3⟩
    have V3:=hide (V2.out.below hb3)
    clear hb3 l0 l1 l2 l3 l4 l5 l6 l7 l8
    obtain ⟨v0, v1, v2, v3, v4, v5⟩ := box5 V3.out.i
    go_wp2_with fail
    go_meet
    rw [F.out.1, F.out.2.1, F.out.2.2]
    exact ((V3.out.set 1 _).set 3 _).set 2 _
   ·have t2 : ((a2 : Int) == (p3 : Int)) = false:=by rw [beq_eq_false_iff_ne]; omega
    have F:=hide (show XX = (if a5 = q3 then lpv d p3 else oldv d x y p3) ∧ YY = (if a0 = p2 then lpv d q0 else oldv d x y q0) ∧ SS = 0 from ⟨by rw [HXX.out, if_neg e1, if_neg e2], by rw [HYY.out, if_neg e1, if_neg e2], by rw [HSS.out, if_neg e1, if_neg e2]⟩)
    clear e1 e2
    go_upto_region 6 with fail
    go_cut [] (fun wx => PV w g0 [.slice A d.n cp, .slice (some ⟨mb, mo, none⟩) m cq, .int .i64 (d.lp : Int)] [.int .i64 (p0 : Int), .int .i64 (p1 : Int), .int .i64 (p2 : Int), .int .i64 (p3 : Int), .int .i64 (q0 : Int), .int .i64 (q1 : Int), .int .i64 (q2 : Int), .int .i64 (q3 : Int)] [.int .i64 k, .int .i64 (x : Int), .int .i64 (y : Int), .int .i64 sg, .bool ov] [.int .i64 3, .int .i64 (oldv d x y p3), .int .i64 (oldv d x y q0), .int .i64 0, .bool bb] wx)
    case first =>
     have HPW:=hide (show PW w g0 [.slice A d.n cp, .slice (some ⟨mb, mo, none⟩) m cq, .int .i64 (d.lp : Int)] [.int .i64 (p0 : Int), .int .i64 (p1 : Int), .int .i64 (p2 : Int), .int .i64 (p3 : Int), .int .i64 (q0 : Int), .int .i64 (q1 : Int), .int .i64 (q2 : Int), .int .i64 (q3 : Int)] [.int .i64 k, .int .i64 (x : Int), .int .i64 (y : Int), .int .i64 sg, .bool ov] (.int .i64 3) (.int .i64 0) (.bool bb) W2 from ⟨_, _, V2.out⟩)
     go_region_held3 (fun w' => w'.cell? ⟨w.heap.size + 1, 3, none⟩ = some (.int .i64 (p3 : Int)) ∧ w'.cell? ⟨w.heap.size + 1, 4, none⟩ = some (.int .i64 (q0 : Int)) ∧ w'.cell? ⟨g0, 1, none⟩ = some (cv w' ⟨g0, 1, none⟩) ∧ w'.cell? ⟨g0, 2, none⟩ = some (cv w' ⟨g0, 2, none⟩) ∧ (∀ o, w'.frozen? ⟨g0, o, none⟩ = false) ∧ PW w g0 [.slice A d.n cp, .slice (some ⟨mb, mo, none⟩) m cq, .int .i64 (d.lp : Int)] [.int .i64 (p0 : Int), .int .i64 (p1 : Int), .int .i64 (p2 : Int), .int .i64 (p3 : Int), .int .i64 (q0 : Int), .int .i64 (q1 : Int), .int .i64 (q2 : Int), .int .i64 (q3 : Int)] [.int .i64 k, .int .i64 (x : Int), .int .i64 (y : Int), .int .i64 sg, .bool ov] (.int .i64 3) (.int .i64 0) (.bool bb) w')
      ((go_split_ands; refine PW.all ?_; (repeat (first | (with_reducible assumption) | (with_reducible exact HPW.out) | (with_reducible refine PW.set1 ?_ _) | (with_reducible refine PW.set2 ?_ _) | (with_reducible refine PW.drew ?_) | (with_reducible refine PW.below ?_ hb5) | (with_reducible refine PW.below ?_ hb4)))))
      (first
        | (have hx5 := hb4
           clear hx5
           go_at_call 128
           refine Calls.mono (oldF_any d hd A (some ⟨mb, mo, none⟩) cp cq m w.heap.size (w.heap.size + 1 + 1) x y q0 k sg ov _ HM.out ?_ ?_ ?_ k0 hxy) ?_
           ·exact (V2.out.drew.below hb4).d
           ·exact (V2.out.drew.below hb4).m
           ·exact HG.out.keep (V2.out.drew.below hb4).bel
           rintro e w5 ⟨rfl, hb5⟩)
        | (go_at_call 128
           refine Calls.mono (oldF_any d hd A (some ⟨mb, mo, none⟩) cp cq m w.heap.size (w.heap.size + 1 + 1) x y p3 k sg ov _ HM.out ?_ ?_ ?_ h3 hxy) ?_
           ·exact V2.out.drew.d
           ·exact V2.out.drew.m
           ·exact HG.out.keep V2.out.drew.bel
           rintro e w4 ⟨rfl, hb4⟩))
     all_goals
      have HP5:=hide (show PW w g0 [.slice A d.n cp, .slice (some ⟨mb, mo, none⟩) m cq, .int .i64 (d.lp : Int)] [.int .i64 (p0 : Int), .int .i64 (p1 : Int), .int .i64 (p2 : Int), .int .i64 (p3 : Int), .int .i64 (q0 : Int), .int .i64 (q1 : Int), .int .i64 (q2 : Int), .int .i64 (q3 : Int)] [.int .i64 k, .int .i64 (x : Int), .int .i64 (y : Int), .int .i64 sg, .bool ov] (.int .i64 3) (.int .i64 0) (.bool bb) w5 from (HPW.out.drew.below hb4).below hb5)
      go_wp2_with fail
      go_meet
      exact HP5.out.fin _ _
    case rest =>
     have VC:=hide hcut
     clear hcut V0 V1 V2
     obtain ⟨W3, hW⟩ : ∃ W : World, W = wc := ⟨_, rfl⟩
     rw [← hW] at VC ⊢
     clear hW
     have V3:=VC
     clear VC
     obtain ⟨d0, d1, d2, d3⟩ := box3 V3.out.d
     obtain ⟨l0, l1, l2, l3, l4, l5, l6, l7, l8⟩ := box8 V3.out.l
     have c5:=C5.out W3 V3.out.bel
     go_upto_region 7 with fail
     go_quiet (fail)
     have V4:=hide (V3.out.drewN nq)
     obtain ⟨W4, hW⟩ : ∃ W : World, W = W3.drewN nq := ⟨_, rfl⟩
     rw [← hW] at V4 ⊢
     clear hW d0 d1 d2 d3 l0 l1 l2 l3 l4 l5 l6 l7 l8 c5
     by_cases e5 : a5 = q3
     ·have t5 : ((a5 : Int) == (q3 : Int)) = true:=by rw [beq_iff_eq]; omega
      have G5:=hide (show (if a5 = q3 then lpv d p3 else oldv d x y p3) = lpv d p3 from if_pos e5)
      clear e5
      obtain ⟨l0, l1, l2, l3, l4, l5, l6, l7, l8⟩ := box8 V4.out.l
      go_wp2_with fail
      refine (loopF_any d hd A (some ⟨mb, mo, none⟩) cp cq m w.heap.size p3 W4 V4.out.d (HG.out.keep V4.out.bel) h3).mono ?_
      rintro e W5 ⟨rfl, hb5⟩
      have V5:=hide (V4.out.below hb5)
      clear hb5 l0 l1 l2 l3 l4 l5 l6 l7 l8
      obtain ⟨v0, v1, v2, v3, v4, v5⟩ := box5 V5.out.i
      go_upto_region 9 with fail
      obtain ⟨W6, hW⟩ : ∃ W : World, W = W5.setCell ⟨g0, 1, none⟩ (.int .i64 (lpv d p3)) := ⟨_, rfl⟩
      have V6:=hide (V5.out.set 1 (.int .i64 (lpv d p3)))
      rw [← hW] at V6 ⊢
      clear hW v0 v1 v2 v3 v4 v5
      obtain ⟨d0, d1, d2, d3⟩ := box3 V6.out.d
      obtain ⟨l0, l1, l2, l3, l4, l5, l6, l7, l8⟩ := box8 V6.out.l
      have c0:=C0.out W6 V6.out.bel
      go_upto_region 9 with fail
      go_quiet (fail)
      have V7:=hide (V6.out.drewN nq)
      obtain ⟨W7, hW⟩ : ∃ W : World, W = W6.drewN nq := ⟨_, rfl⟩
      rw [← hW] at V7 ⊢
      clear hW d0 d1 d2 d3 l0 l1 l2 l3 l4 l5 l6 l7 l8 c0
      by_cases e0 : a0 = p2
      ·have t0 : ((a0 : Int) == (p2 : Int)) = true:=by rw [beq_iff_eq]; omega
       have G0:=hide (show (if a0 = p2 then lpv d q0 else oldv d x y q0) = lpv d q0 from if_pos e0)
       clear e0
       obtain ⟨l0, l1, l2, l3, l4, l5, l6, l7, l8⟩ := box8 V7.out.l
       go_wp2_with fail
       refine (loopF_any d hd A (some ⟨mb, mo, none⟩) cp cq m w.heap.size q0 W7 V7.out.d (HG.out.keep V7.out.bel) k0).mono ?_
       rintro e W8 ⟨rfl, hb8⟩
       have V8:=hide (V7.out.below hb8)
       clear hb8 l0 l1 l2 l3 l4 l5 l6 l7 l8
       obtain ⟨v0, v1, v2, v3, v4, v5⟩ := box5 V8.out.i
       go_wp2_with fail
       go_meet
       rw [F.out.1, F.out.2.1, F.out.2.2, G5.out, G0.out]
       exact V8.out.set 2 _
      ·have t0 : ((a0 : Int) == (p2 : Int)) = false:=by rw [beq_eq_false_iff_ne]; omega
       have G0:=hide (show (if a0 = p2 then lpv d q0 else oldv d x y q0) = oldv d x y q0 from if_neg e0)
       clear e0
       go_wp2_with fail
       go_meet
       rw [F.out.1, F.out.2.1, F.out.2.2, G5.out, G0.out]
       exact V7.out
     ·have t5 : ((a5 : Int) == (q3 : Int)) = false:=by rw [beq_eq_false_iff_ne]; omega
      have G5:=hide (show (if a5 = q3 then lpv d p3 else oldv d x y p3) = oldv d x y p3 from if_neg e5)
      clear e5
      obtain ⟨d0, d1, d2, d3⟩ := box3 V4.out.d
      obtain ⟨l0, l1, l2, l3, l4, l5, l6, l7, l8⟩ := box8 V4.out.l
      have c0:=C0.out W4 V4.out.bel
      go_upto_region 9 with fail
      go_quiet (fail)
      have V5:=hide (V4.out.drewN nq)
      obtain ⟨W5, hW⟩ : ∃ W : World, W = W4.drewN nq := ⟨_, rfl⟩
      rw [← hW] at V5 ⊢
      clear hW d0 d1 d2 d3 l0 l1 l2 l3 l4 l5 l6 l7 l8 c0
      by_cases e0 : a0 = p2
      ·have t0 : ((a0 : Int) == (p2 : Int)) = true:=by rw [beq_iff_eq]; omega
       have G0:=hide (show (if a0 = p2 then lpv d q0 else oldv d x y q0) = lpv d q0 from if_pos e0)
       clear e0
       obtain ⟨l0, l1, l2, l3, l4, l5, l6, l7, l8⟩ := box8 V5.out.l
       go_wp2_with fail
       refine (loopF_any d hd A (some ⟨mb, mo, none⟩) cp cq m w.heap.size q0 W5 V5.out.d (HG.out.keep V5.out.bel) k0).mono ?_
       rintro e W6 ⟨rfl, hb6⟩
       have V6:=hide (V5.out.below hb6)
       clear hb6 l0 l1 l2 l3 l4 l5 l6 l7 l8
       obtain ⟨v0, v1, v2, v3, v4, v5⟩ := box5 V6.out.i
       go_wp2_with fail
       go_meet
       rw [F.out.1, F.out.2.1, F.out.2.2, G5.out, G0.out]
       exact V6.out.set 2 _
      ·have t0 : ((a0 : Int) == (p2 : Int)) = false:=by rw [beq_eq_false_iff_ne]; omega
       have G0:=hide (show (if a0 = p2 then lpv d q0 else oldv d x y q0) = oldv d x y q0 from if_neg e0)
       clear e0
       go_wp2_with fail
       go_meet
       rw [F.out.1, F.out.2.1, F.out.2.2, G5.out, G0.out]
       exact V5.out
 case rest =>
  have V3:=hide hcut
  clear hcut V0 V1 V2
  obtain ⟨v0, v1, v2, v3, v4, v5⟩ := box5 V3.out.i
  obtain ⟨us, r2, l2⟩ := V3.out.r
  obtain ⟨b0, b1, b2, b3, b4, b5⟩ : wc.cell? ⟨w.heap.size + 1 + 1 + 1, 0, none⟩ = some (cv wc ⟨w.heap.size + 1 + 1 + 1, 0, none⟩) ∧ wc.cell? ⟨w.heap.size + 1 + 1 + 1, 1, none⟩ = some (cv wc ⟨w.heap.size + 1 + 1 + 1, 1, none⟩) ∧ wc.cell? ⟨w.heap.size + 1 + 1 + 1, 2, none⟩ = some (cv wc ⟨w.heap.size + 1 + 1 + 1, 2, none⟩) ∧ wc.cell? ⟨w.heap.size + 1 + 1 + 1, 3, none⟩ = some (cv wc ⟨w.heap.size + 1 + 1 + 1, 3, none⟩) ∧ wc.cell? ⟨w.heap.size + 1 + 1 + 1, 4, none⟩ = some (cv wc ⟨w.heap.size + 1 + 1 + 1, 4, none⟩) ∧ (∀ o, wc.frozen? ⟨w.heap.size + 1 + 1 + 1, o, none⟩ = false) := ⟨cv_some (r2.cell (i := 0) (by omega)), cv_some (r2.cell (i := 1) (by omega)), cv_some (r2.cell (i := 2) (by omega)), cv_some (r2.cell (i := 3) (by omega)), cv_some (r2.cell (i := 4) (by omega)), r2.free⟩
  go_wp2
  refine bodyPost_ret (v := .agg #[.int .i64 3, .int .i64 XX, .int .i64 YY, .int .i64 SS, .bool bb]) ?_ rfl ?_
  ·obtain ⟨f0, f1, f2, f3, f4, _⟩ := box5 (row5 r2 l2 (.int .i64 3) (.int .i64 XX) (.int .i64 YY) (.int .i64 SS) (.bool bb))
   clear b0 b1 b2 b3 b4 b5 v0 v1 v2 v3 v4 v5
   simp [results, Try.results93, go_sem, f0, f1, f2, f3, f4]
  ·refine ⟨?_, ((((V3.out.bel.setCell (by show _ ≤ w.heap.size + 1 + 1 + 1; omega) _).setCell (by show _ ≤ w.heap.size + 1 + 1 + 1; omega) _).setCell (by show _ ≤ w.heap.size + 1 + 1 + 1; omega) _).setCell (by show _ ≤ w.heap.size + 1 + 1 + 1; omega) _).setCell (by show _ ≤ w.heap.size + 1 + 1 + 1; omega) _⟩
   rw [EX.out]
   rfl
end Go.Proofs.Ytobbepmlmbbamaa
end
