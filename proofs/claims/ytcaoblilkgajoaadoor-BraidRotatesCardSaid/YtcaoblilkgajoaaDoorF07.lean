/-
 The texts Bc, Brn in one.
-/
import Derived.Test.YtcaoblilkgajoaaDoorF06
import Derived.RegionTactic
import Derived.Test.YtcaoblilkgajoaaDoorF03
set_option linter.unusedVariables false
set_option linter.unusedSimpArgs false
section
namespace Go.Proofs.YtcaoblilkgajoaaDoor
open Go Go.RowKit
attribute [local go_sem ↓] Go.wp_at_zero Go.wp_at_succ
theorem run_perm (n : Nat) (hn : n ≤ 100000) (w : World) : (Instr.makeSlice 43 (.int .i64 (n : Int)) (.int .i64 (n : Int))).run Tryd.prog w = .ok (.slice (some ⟨w.heap.size, 0, none⟩) n n) (w.alloc (.cells (Array.replicate n (Value.int .i64 0)) 3)) := by
 obtain ⟨i0, hi, hz0, hz1, hz2⟩ := info_parts intInfo
 have := run_make (P := Tryd.prog) w 43 3 i0 (.int .i64 0) Tryd.underlying43 hi hz0 .i64 .i64 n n (by omega) (Int.le_refl _) (by rw [hz2]; omega) (by omega)
 rw [hz1, Nat.mul_one, Int.toNat_natCast, show madeCells (Value.cells (.int .i64 0)) n = (List.replicate n (.int .i64 0)).toArray from made_rep _ _] at this
 exact this
theorem range_step (k n : Nat) (h : k < n) : (List.range k ++ List.replicate (n - k) 0).set k k = List.range (k + 1) ++ List.replicate (n - (k + 1)) 0 := by
 have e : n - k = (n - (k + 1)) + 1 := by omega
 rw [e, List.replicate_succ, List.set_append_right _ _ (by simp), List.length_range, Nat.sub_self, List.set_cons_zero, List.range_succ, List.append_assoc]
 rfl
structure PM (w : World) (bv : List Value) (g : Nat) (ns : List Nat) (W : World) : Prop where
 b : Row W w.heap.size 24 bv
 r : IRow W g (nats ns)
 lo : w.heap.size < g
 bel : Below w.heap.size w W
section
variable {w W W' : World} {bv : List Value} {g : Nat} {ns : List Nat}
theorem PM.below (h : PM w bv g ns W) (hb : Below W.heap.size W W') : PM w bv g ns W' :=
 ⟨h.b.below hb, Row.below h.r hb, h.lo, h.bel.trans (hb.mono h.bel.size)⟩
theorem PM.set (h : PM w bv g ns W) (i x : Nat) : PM w bv g (ns.set i x) (W.setCell ⟨g, i, none⟩ (.int .i64 (x : Int))) := by
 refine ⟨h.b.other (by show _ ≠ g; have := h.lo; omega) _, ?_, h.lo, h.bel.setCell (by show _ ≤ g; have := h.lo; omega) _⟩
 have := IRow.set h.r i (x : Int)
 rw [← nats_set] at this
 exact this
theorem PM.cell (h : PM w bv g ns W) {i : Nat} (hi : i < ns.length) : W.cell? ⟨g, i, none⟩ = some (.int .i64 ((ns.getD i 0 : Nat) : Int)) := by
 have := IRow.cell h.r (i := i) (by rw [nats_len]; exact hi)
 rw [this]
 unfold Pl.pv nats
 rw [List.getD_eq_getElem?_getD, List.getD_eq_getElem?_getD, List.getElem?_map, List.getElem?_eq_getElem hi]
 rfl
end
def PermPost (s : Int) (ws : List Int) (w : World) (e : Ending) (w' : World) : Prop :=
 (¬ Pl.BV s ws → e = .returned (.slice none 0 0)) ∧ (Pl.BV s ws → ∃ g, w.heap.size ≤ g ∧ e = .returned (.slice (some ⟨g, 0, none⟩) s.toNat s.toNat) ∧ IRow w' g (nats (Pl.pmR s.toNat ws))) ∧ Below w.heap.size w w'
set_option maxRecDepth 100000 in
set_option maxHeartbeats 4000000 in
theorem perm_any (s : Int) (ws : List Int) (A : Option Addr) (n c : Nat) (w : World) (hw : IntsAt w A n ws) (hn : n ≤ maxLen) :
 Calls Tryd.prog 23 #[.agg #[.int .i64 s, .slice A n c]] w (PermPost s ws w) := by
 have hn' := hn
 unfold maxLen at hn'
 have HL := hide hw.len
 have HW := hide hw
 clear hw
 have X0 := hide (row_at (W := w) (g := w.heap.size) (t := 24) (vs := [.int .i64 s, .slice A n c]) rfl)
 have B0 := hide (show Below w.heap.size w (w.alloc (.cells #[.int .i64 s, .slice A n c] 24)) from (Below.refl _ _).alloc (Nat.le_refl _) _)
 obtain ⟨d0, d1, d2⟩ := box2b X0.out
 go_enter Tryd.func23, Tryd.ntmps23
 go_wp2_with fail
 refine (bvalid_any s ws A n c _ (HW.out.keep B0.out) hn).mono ?_
 rintro e w1 ⟨rfl, hb1⟩
 have B1 := hide (B0.out.trans (hb1.mono B0.out.size))
 have X1 := hide (X0.out.below hb1)
 clear X0 B0 hb1 d0 d1 d2
 obtain ⟨d0, d1, d2⟩ := box2b X1.out
 by_cases hv : Pl.BV s ws
 ·rw [Pl.vb_true hv]
  have HV := hide hv
  have HOK := hide hv.ok
  have hn2 : n ≤ 200 := by rw [← HL.out]; exact hv.2.2.1
  obtain ⟨q, hq⟩ : ∃ q : Nat, s = (q : Int) := ⟨s.toNat, by have := hv.1; omega⟩
  have hq1 : 1 ≤ q := by have := hv.1; omega
  have hq10 : q ≤ 10 := by have := hv.2.1; omega
  subst hq
  rw [Int.toNat_natCast] at HOK
  clear hv
  have hmk := fun W : World => run_ints q (by omega) W
  have hmp := fun W : World => run_perm q (by omega) W
  have P0 := hide (show PM w [.int .i64 (q : Int), .slice A n c] w1.heap.size (List.range 0 ++ List.replicate (q - 0) 0) (w1.alloc (.cells (Array.replicate q (Value.int .i64 0)) 3)) from
   ⟨X1.out.alloc _, by
     have h := IRow.made w1 q
     simpa [nats] using h, X1.out.lt, B1.out.alloc B1.out.size _⟩)
  have hlo : w.heap.size < w1.heap.size := X1.out.lt
  go_upto_region 4 with fail
  obtain ⟨g, hg⟩ : ∃ g, g = w1.heap.size := ⟨_, rfl⟩
  rw [← hg] at P0 ⊢
  clear hg d0 d1 d2 X1 hmk hlo
  go_wp2_with fail
  go_loopg [4, 19] q (fun gg s4 i wx => ∃ k : Nat, k + gg = q ∧ i = .int .i64 (k : Int) ∧ PM w [.int .i64 (q : Int), .slice A n c] g (List.range k ++ List.replicate (q - k) 0) wx)
  case atStart => exact ⟨0, by omega, rfl, P0.out⟩
  case round =>
   clear P0
   obtain ⟨k, hkg, rfl, hp⟩ := hrel
   have HKG := hide hkg
   have P1 := hide hp
   have hkq : k ≤ q := by omega
   clear hp hkg
   by_cases hk : k < q
   ·have hki : (k : Int) < (q : Int) := by omega
    have k0 : (0 : Int) ≤ (k : Int) := by omega
    have c1 := P1.out.cell (i := k) (by simp; omega)
    have f1 := Row.free P1.out.r k
    go_wp2
    go_roundg (gk - 1)
    case measure => have := HKG.out; omega
    case rel => exact ⟨k + 1, by have := HKG.out; omega, by go_num, by
     have h := P1.out.set k k
     rw [range_step k q hk] at h
     exact h⟩
   ·have hki : ¬ ((k : Int) < (q : Int)) := by omega
    have Q0 := hide (show PM w [.int .i64 (q : Int), .slice A n c] g (Pl.pmA q (ws.take 0)) wr from by
     have h := P1.out
     rw [show k = q by omega, Nat.sub_self, List.replicate_zero, List.append_nil] at h
     exact h)
    obtain ⟨d0, d1, d2⟩ := box2b P1.out.b
    clear P1 hk HKG hkq
    go_wp2_with fail
    go_loopg [6, 7, 30] n (fun gg s6 s7 i wx => ∃ k : Nat, k + gg = n ∧ i = .int .i64 (k : Int) ∧ PM w [.int .i64 (q : Int), .slice A n c] g (Pl.pmA q (ws.take k)) wx)
    case atStart => exact ⟨0, by omega, rfl, Q0.out⟩
    case round =>
     clear Q0
     obtain ⟨k, hkg, rfl, hp⟩ := hrel
     have HKG := hide hkg
     have P1 := hide hp
     have hkn : k ≤ n := by omega
     clear hp hkg d0 d1 d2
     obtain ⟨go, rfl⟩ : ∃ go, go = gk := ⟨_, rfl⟩
     by_cases hk : k < n
     ·have hki : (k : Int) < (n : Int) := by omega
      have k0 : (0 : Int) ≤ (k : Int) := by omega
      obtain ⟨b, o, rfl, x1⟩ := (HW.out.keep P1.out.bel).at_ hk
      obtain ⟨x, hxm, hx, hxt⟩ := letter_at HL.out hk
      rw [hx] at x1
      have HXT := hide (show Pl.pmA q (ws.take (k + 1)) = Pl.swp (Pl.pmA q (ws.take k)) x.natAbs by rw [hxt, Pl.pmA_snoc])
      have hlx := HOK.out x hxm
      obtain ⟨m, hm⟩ : ∃ m, m = x.natAbs := ⟨_, rfl⟩
      obtain ⟨ns, hns⟩ : ∃ ns, ns = Pl.pmA q (ws.take k) := ⟨_, rfl⟩
      have HLN := hide (show ns.length = q by rw [hns]; exact Pl.pmA_len _ _)
      have hxb : -1000000 ≤ x ∧ x ≤ 1000000 := by have := hlx.2; omega
      rw [← hns] at P1 HXT
      rw [← hm] at HXT
      have hm1 : 1 ≤ m := by rw [hm]; exact hlx.1
      have hm2 : m < q := by rw [hm]; exact hlx.2
      have HMX := hide hm
      clear hx hxt hxm hlx hm hns
      go_wp2_with fail
      refine (generator_any x wr hxb).mono ?_
      rintro e w2 ⟨rfl, rfl⟩
      rw [← HMX.out]
      clear x1 hxb
      obtain ⟨j, rfl⟩ : ∃ j, m = j + 1 := ⟨m - 1, by omega⟩
      have c1 := P1.out.cell (i := j) (by rw [HLN.out]; omega)
      have c2 := P1.out.cell (i := j + 1) (by rw [HLN.out]; omega)
      have f1 := Row.free P1.out.r
      have i1 : (0 : Int) ≤ (j : Int) := by omega
      have i2 : (j : Int) < (q : Int) := by omega
      have i3 : (j : Int) + 1 < (q : Int) := by omega
      obtain ⟨y1, hy1⟩ : ∃ y, y = ns.getD j 0 := ⟨_, rfl⟩
      obtain ⟨y2, hy2⟩ : ∃ y, y = ns.getD (j + 1) 0 := ⟨_, rfl⟩
      rw [← hy1] at c1
      rw [← hy2] at c2
      have HY := hide (show Pl.swp ns (j + 1) = (ns.set j y2).set (j + 1) y1 by rw [hy1, hy2]; rfl)
      clear hy1 hy2
      go_upto_region 13 with fail
      go_region
      all_goals (go_wp2_with fail)
      go_roundg (go - 1)
      case measure => have := HKG.out; omega
      case rel => exact ⟨k + 1, by have := HKG.out; omega, by go_num, by
       rw [HXT.out, HY.out]
       exact ((P1.out.set j y2).set (j + 1) y1).below (Below.refl _ _).drew⟩
     ·have hki : ¬ ((k : Int) < (n : Int)) := by omega
      have HT := hide (show ws.take k = ws from List.take_of_length_le (by have := HL.out; omega))
      have Q1 := hide (show PM w [.int .i64 (q : Int), .slice A n c] g (Pl.pmA q ws) wr from by have h := P1.out; rw [HT.out] at h; exact h)
      have HFIT := hide (show ∀ i, i < q → (Pl.pmA q ws).getD i 0 < q from fun i hi => ((Pl.pm_fit q _ ws rfl HOK.out).2 i hi).1)
      have HEQ := hide (Pl.perm_eq HOK.out)
      obtain ⟨ns, hns⟩ : ∃ ns, ns = Pl.pmA q ws := ⟨_, rfl⟩
      have HLN := hide (show ns.length = q by rw [hns]; exact Pl.pmA_len _ _)
      rw [← hns] at Q1 HFIT HEQ
      obtain ⟨d0, d1, d2⟩ := box2b Q1.out.b
      have hgw : g < wr.heap.size := Row.lt Q1.out.r
      have R0 := hide (show PM w [.int .i64 (q : Int), .slice A n c] g ns (wr.alloc (.cells (Array.replicate q (Value.int .i64 0)) 3)) ∧ IRow (wr.alloc (.cells (Array.replicate q (Value.int .i64 0)) 3)) wr.heap.size (nats (Pl.ivL ns q 0)) from
       ⟨Q1.out.below ((Below.refl _ _).alloc (Nat.le_refl _) _), by
         have h := IRow.made wr q
         simpa [nats, Pl.ivL] using h⟩)
      clear P1 hk HKG hkn hns HT
      go_upto_region 16 with fail
      obtain ⟨gp, hgp⟩ : ∃ g, g = wr.heap.size := ⟨_, rfl⟩
      rw [← hgp] at R0 hgw ⊢
      clear hgp Q1 hmp d0 d1 d2
      go_wp2_with fail
      go_loopg [9, 10, 58] q (fun gg s9 s10 i wx => ∃ k : Nat, k + gg = q ∧ i = .int .i64 (k : Int) ∧ PM w [.int .i64 (q : Int), .slice A n c] g ns wx ∧ IRow wx gp (nats (Pl.ivL ns q k)))
      case atStart => exact ⟨0, by omega, rfl, R0.out⟩
      case round =>
       clear R0
       obtain ⟨k, hkg, rfl, hp, hr⟩ := hrel
       have HKG := hide hkg
       have P1 := hide hp
       have R1 := hide hr
       have hkq : k ≤ q := by omega
       clear hp hr hkg
       obtain ⟨gi, rfl⟩ : ∃ gi, gi = gk := ⟨_, rfl⟩
       by_cases hk : k < q
       ·have hki : (k : Int) < (q : Int) := by omega
        have k0 : (0 : Int) ≤ (k : Int) := by omega
        have c1 := P1.out.cell (i := k) (by rw [HLN.out]; exact hk)
        have hy := HFIT.out k hk
        have HST := hide (show Pl.ivL ns q (k + 1) = (Pl.ivL ns q k).set (ns.getD k 0) k from rfl)
        obtain ⟨y, hyy⟩ : ∃ y, y = ns.getD k 0 := ⟨_, rfl⟩
        rw [← hyy] at c1 hy HST
        have c2 := IRow.cell R1.out (i := y) (by rw [nats_len, Pl.ivL_len]; exact hy)
        have f2 := Row.free R1.out
        have y0 : (0 : Int) ≤ (y : Int) := by omega
        have y1 : (y : Int) < (q : Int) := by omega
        clear hyy
        go_wp2
        go_roundg (gi - 1)
        case measure => have := HKG.out; omega
        case rel => exact ⟨k + 1, by have := HKG.out; omega, by go_num, ⟨P1.out.b.other (by show _ ≠ gp; have := P1.out.lo; omega) _, Row.other P1.out.r (by show _ ≠ gp; omega) _, P1.out.lo, P1.out.bel.setCell (by show _ ≤ gp; have := P1.out.lo; omega) _⟩, by
         rw [HST.out]
         have h := IRow.set R1.out y (k : Int)
         rw [← nats_set] at h
         exact h⟩
       ·have hki : ¬ ((k : Int) < (q : Int)) := by omega
        have HF := hide (show PermPost (q : Int) ws w (.returned (.slice (some ⟨gp, 0, none⟩) q q)) wr from
         ⟨fun h => absurd HV.out h, fun _ => ⟨gp, by have := P1.out.lo; omega, by rw [Int.toNat_natCast], by
           have h := R1.out
           rw [show k = q by omega, HEQ.out] at h
           rw [Int.toNat_natCast]
           exact h⟩, P1.out.bel⟩)
        go_wp2
        go_ret
        exact HF.out
 ·rw [Pl.vb_false hv]
  have HV := hide hv
  clear hv
  go_wp2
  go_ret
  exact ⟨fun _ => rfl, fun h => absurd h HV.out, B1.out⟩
end Go.Proofs.YtcaoblilkgajoaaDoor
end
section
namespace Go.Proofs.YtcaoblilkgajoaaDoor.Pl
def slt (x : Int) (o r : Bool) : Nat := if x < 0 then (if r then (if o then 2 else 1) else (if o then 3 else 0)) else (if r then (if o then 1 else 0) else (if o then 2 else 3))
theorem slt_lt (x : Int) (o r : Bool) : slt x o r < 4 := by unfold slt; split <;> cases o <;> cases r <;> decide
theorem slt_inj {x : Int} {o r o' r' : Bool} (h : slt x o r = slt x o' r') : o = o' ∧ r = r' := by
 revert h
 unfold slt
 split <;> cases o <;> cases r <;> cases o' <;> cases r' <;> simp
def tcp (x : Int) (p : Nat) : Prop := x.natAbs = p + 1 ∨ x.natAbs = p
instance (x : Int) (p : Nat) : Decidable (tcp x p) := by unfold tcp; infer_instance
def TP (ws : List Int) (p i : Nat) : Prop := tcp (ws.getD i 0) p
def dO (ws : List Int) (i p : Nat) : Nat := 4 * i + slt (ws.getD i 0) true (p == (ws.getD i 0).natAbs)
def dI (ws : List Int) (i p : Nat) : Nat := 4 * i + slt (ws.getD i 0) false (p == (ws.getD i 0).natAbs)
theorem dO_lt {ws : List Int} {i p : Nat} (h : i < ws.length) : dO ws i p < 4 * ws.length := by
 have := slt_lt (ws.getD i 0) true (p == (ws.getD i 0).natAbs)
 unfold dO
 omega
theorem dI_lt {ws : List Int} {i p : Nat} (h : i < ws.length) : dI ws i p < 4 * ws.length := by
 have := slt_lt (ws.getD i 0) false (p == (ws.getD i 0).natAbs)
 unfold dI
 omega
theorem dart_eq {ws : List Int} {i p i' p' : Nat} {o o' : Bool} (hp : TP ws p i) (hp' : TP ws p' i') (h0 : 1 ≤ (ws.getD i 0).natAbs) (h : 4 * i + slt (ws.getD i 0) o (p == (ws.getD i 0).natAbs) = 4 * i' + slt (ws.getD i' 0) o' (p' == (ws.getD i' 0).natAbs)) : i = i' ∧ p = p' ∧ o = o' := by
 have h1 := slt_lt (ws.getD i 0) o (p == (ws.getD i 0).natAbs)
 have h2 := slt_lt (ws.getD i' 0) o' (p' == (ws.getD i' 0).natAbs)
 obtain rfl : i = i' := by omega
 obtain ⟨e1, e2⟩ := slt_inj (show slt (ws.getD i 0) o (p == (ws.getD i 0).natAbs) = slt (ws.getD i 0) o' (p' == (ws.getD i 0).natAbs) by omega)
 refine ⟨rfl, ?_, e1⟩
 unfold TP tcp at hp hp'
 rw [Bool.eq_iff_iff, beq_iff_eq, beq_iff_eq] at e2
 by_cases e : p = (ws.getD i 0).natAbs
 ·have := e2.mp e
  omega
 ·have : ¬ p' = (ws.getD i 0).natAbs := fun h => e (e2.mpr h)
  omega
theorem dO_inj {ws : List Int} {i p i' p' : Nat} (hp : TP ws p i) (hp' : TP ws p' i') (h0 : 1 ≤ (ws.getD i 0).natAbs) (h : dO ws i p = dO ws i' p') : i = i' ∧ p = p' := by
 obtain ⟨a, b, _⟩ := dart_eq hp hp' h0 h
 exact ⟨a, b⟩
theorem dI_inj {ws : List Int} {i p i' p' : Nat} (hp : TP ws p i) (hp' : TP ws p' i') (h0 : 1 ≤ (ws.getD i 0).natAbs) (h : dI ws i p = dI ws i' p') : i = i' ∧ p = p' := by
 obtain ⟨a, b, _⟩ := dart_eq hp hp' h0 h
 exact ⟨a, b⟩
theorem dO_ne {ws : List Int} {i p i' p' : Nat} (hp : TP ws p i) (hp' : TP ws p' i') (h0 : 1 ≤ (ws.getD i 0).natAbs) : dO ws i p ≠ dI ws i' p' := fun h => by
 obtain ⟨_, _, c⟩ := dart_eq hp hp' h0 h
 cases c
theorem dart_ex {ws : List Int} {h : Nat} (hh : h < 4 * ws.length) (h0 : 1 ≤ (ws.getD (h / 4) 0).natAbs) : ∃ p, TP ws p (h / 4) ∧ (h = dO ws (h / 4) p ∨ h = dI ws (h / 4) p) := by
 obtain ⟨x, hx⟩ : ∃ x, x = ws.getD (h / 4) 0 := ⟨_, rfl⟩
 obtain ⟨i, hi⟩ : ∃ i, i = h / 4 := ⟨_, rfl⟩
 have key : ∀ s, s < 4 → ∃ o r, s = slt x o r := by
  intro s hs
  unfold slt
  by_cases hx0 : x < 0
  ·simp only [if_pos hx0]
   have : s = 0 ∨ s = 1 ∨ s = 2 ∨ s = 3 := by omega
   rcases this with rfl | rfl | rfl | rfl
   ·exact ⟨false, false, rfl⟩
   ·exact ⟨false, true, rfl⟩
   ·exact ⟨true, true, rfl⟩
   ·exact ⟨true, false, rfl⟩
  ·simp only [if_neg hx0]
   have : s = 0 ∨ s = 1 ∨ s = 2 ∨ s = 3 := by omega
   rcases this with rfl | rfl | rfl | rfl
   ·exact ⟨false, true, rfl⟩
   ·exact ⟨true, true, rfl⟩
   ·exact ⟨true, false, rfl⟩
   ·exact ⟨false, false, rfl⟩
 obtain ⟨o, r, hs⟩ := key (h % 4) (by omega)
 rw [← hx] at h0
 refine ⟨if r then x.natAbs else x.natAbs - 1, ?_, ?_⟩
 ·unfold TP tcp
  rw [← hx]
  cases r
  ·left
   show x.natAbs = x.natAbs - 1 + 1
   omega
  ·right
   rfl
 ·unfold dO dI
  rw [← hx]
  have er : ((if r then x.natAbs else x.natAbs - 1) == x.natAbs) = r := by
   cases r
   ·show (x.natAbs - 1 == x.natAbs) = false
    rw [beq_eq_false_iff_ne]
    omega
   ·show (x.natAbs == x.natAbs) = true
    simp
  rw [er]
  cases o
  ·right
   rw [← hs]
   omega
  ·left
   rw [← hs]
   omega
def CN (T : Nat → Prop) (L i j : Nat) : Prop := T i ∧ T j ∧ i < L ∧ j < L ∧ ((i < j ∧ ∀ k, i < k → k < j → ¬ T k) ∨ (j ≤ i ∧ (∀ k, i < k → k < L → ¬ T k) ∧ ∀ k, k < j → ¬ T k))
section
variable {T : Nat → Prop} {L i j i' j' : Nat}
theorem CN.fn0 (h : CN T L i j) (h' : CN T L i j') : ¬ j < j' := fun hlt => by
 obtain ⟨a1, a2, a3, a4, a5⟩ := h
 obtain ⟨b1, b2, b3, b4, b5⟩ := h'
 rcases b5 with ⟨c1, c2⟩ | ⟨c1, c2, c3⟩
 ·rcases a5 with ⟨d1, d2⟩ | ⟨d1, d2, d3⟩
  ·exact c2 j d1 hlt a2
  ·exact d2 j' c1 b4 b2
 ·exact c3 j hlt a2
theorem CN.fn (h : CN T L i j) (h' : CN T L i j') : j = j' := by
 have h1 := h.fn0 h'
 have h2 := h'.fn0 h
 omega
theorem CN.inj0 (h : CN T L i j) (h' : CN T L i' j) : ¬ i < i' := fun hlt => by
 obtain ⟨a1, a2, a3, a4, a5⟩ := h
 obtain ⟨b1, b2, b3, b4, b5⟩ := h'
 rcases a5 with ⟨d1, d2⟩ | ⟨d1, d2, d3⟩
 ·rcases b5 with ⟨c1, c2⟩ | ⟨c1, c2, c3⟩
  ·exact d2 i' hlt c1 b1
  ·exact c3 i d1 a1
 ·exact d2 i' hlt b3 b1
theorem CN.inj (h : CN T L i j) (h' : CN T L i' j) : i = i' := by
 have h1 := h.inj0 h'
 have h2 := h'.inj0 h
 omega
theorem first_ex (T : Nat → Prop) (a : Nat) : ∀ d, (∃ k, a ≤ k ∧ k < a + d ∧ T k) → ∃ k, a ≤ k ∧ k < a + d ∧ T k ∧ ∀ l, a ≤ l → l < k → ¬ T l
 | 0, ⟨k, h1, h2, _⟩ => by omega
 | d + 1, ⟨k, h1, h2, h3⟩ => by
   by_cases h : ∃ k, a ≤ k ∧ k < a + d ∧ T k
   ·obtain ⟨m, m1, m2, m3, m4⟩ := first_ex T a d h
    exact ⟨m, m1, by omega, m3, m4⟩
   ·refine ⟨k, h1, h2, h3, fun l l1 l2 l3 => h ⟨l, l1, by omega, l3⟩⟩
theorem last_ex (T : Nat → Prop) (a : Nat) : ∀ b, (∃ k, a ≤ k ∧ k < b ∧ T k) → ∃ k, a ≤ k ∧ k < b ∧ T k ∧ ∀ l, k < l → l < b → ¬ T l
 | 0, ⟨k, h1, h2, _⟩ => by omega
 | b + 1, ⟨k, h1, h2, h3⟩ => by
   by_cases h : a ≤ b ∧ T b
   ·exact ⟨b, h.1, by omega, h.2, fun l l1 l2 => by omega⟩
   ·have hk : k < b := by
     rcases Nat.lt_or_ge k b with h' | h'
     ·exact h'
     ·exact absurd ⟨by omega, by rw [show b = k by omega]; exact h3⟩ h
    obtain ⟨m, m1, m2, m3, m4⟩ := last_ex T a b ⟨k, h1, hk, h3⟩
    refine ⟨m, m1, by omega, m3, fun l l1 l2 l3 => ?_⟩
    rcases Nat.lt_or_ge l b with h' | h'
    ·exact m4 l l1 h' l3
    ·exact h ⟨by omega, by rw [show b = l by omega]; exact l3⟩
theorem CN.next_ex (hT : T i) (hi : i < L) : ∃ j, CN T L i j := by
 by_cases h : ∃ k, i + 1 ≤ k ∧ k < i + 1 + (L - (i + 1)) ∧ T k
 ·obtain ⟨k, h1, h2, h3, h4⟩ := first_ex T (i + 1) _ h
  exact ⟨k, hT, h3, hi, by omega, .inl ⟨by omega, fun l l1 l2 => h4 l (by omega) l2⟩⟩
 ·obtain ⟨k, h1, h2, h3, h4⟩ := first_ex T 0 L ⟨i, by omega, by omega, hT⟩
  refine ⟨k, hT, h3, hi, by omega, .inr ⟨?_, fun l l1 l2 l3 => h ⟨l, by omega, by omega, l3⟩, fun l l1 => h4 l (by omega) l1⟩⟩
  rcases Nat.lt_or_ge i k with h' | h'
  ·exact absurd hT (h4 i (by omega) h')
  ·exact h'
theorem CN.prev_ex (hT : T j) (hj : j < L) : ∃ i, CN T L i j := by
 by_cases h : ∃ k, 0 ≤ k ∧ k < j ∧ T k
 ·obtain ⟨k, h1, h2, h3, h4⟩ := last_ex T 0 j h
  exact ⟨k, h3, hT, by omega, hj, .inl ⟨h2, h4⟩⟩
 ·obtain ⟨k, h1, h2, h3, h4⟩ := last_ex T 0 L ⟨j, by omega, hj, hT⟩
  refine ⟨k, h3, hT, h2, hj, .inr ⟨?_, h4, fun l l1 l2 => h ⟨l, by omega, l1, l2⟩⟩⟩
  rcases Nat.lt_or_ge k j with h' | h'
  ·exact absurd ⟨k, by omega, h', h3⟩ h
  ·exact h'
end
def WOk (n : Nat) (ws : List Int) : Prop := ∀ i, i < ws.length → LetOk n (ws.getD i 0)
theorem BV.wok {s : Int} {ws : List Int} (h : BV s ws) : WOk s.toNat ws := fun i hi => h.ok _ (by rw [List.getD_eq_getElem?_getD, List.getElem?_eq_getElem hi]; exact List.getElem_mem hi)
theorem WOk.lt {n : Nat} {ws : List Int} (h : WOk n ws) {i p : Nat} (hi : i < ws.length) (hp : TP ws p i) : p < n := by
 have h1 := (h i hi).2
 unfold TP tcp at hp
 omega
def CGood (ws : List Int) (M : List Nat) : Prop := M.length = 4 * ws.length ∧ ∀ p i j, CN (TP ws p) ws.length i j → M.getD (dO ws i p) 0 = dI ws j p ∧ M.getD (dI ws j p) 0 = dO ws i p
theorem CGood.uniq {n : Nat} {ws : List Int} {M M' : List Nat} (hw : WOk n ws) (h : CGood ws M) (h' : CGood ws M') : M = M' := by
 refine List.ext_getElem (by rw [h.1, h'.1]) fun k h1 h2 => ?_
 have hk : k < 4 * ws.length := by rw [← h.1]; exact h1
 have key : M.getD k 0 = M'.getD k 0 := by
  have hi : k / 4 < ws.length := by omega
  obtain ⟨p, hp, e | e⟩ := dart_ex hk (hw _ hi).1
  ·obtain ⟨j, hj⟩ := CN.next_ex hp hi
   rw [e, (h.2 p _ j hj).1, (h'.2 p _ j hj).1]
  ·obtain ⟨j, hj⟩ := CN.prev_ex hp hi
   rw [e, (h.2 p j _ hj).2, (h'.2 p j _ hj).2]
 rw [List.getD_eq_getElem?_getD, List.getD_eq_getElem?_getD, List.getElem?_eq_getElem h1, List.getElem?_eq_getElem h2] at key
 exact key
theorem jnn_getD (l : List Nat) (a b x : Nat) (ha : a < l.length) (hb : b < l.length) : (jnn l a b).getD x 0 = if x = b then a else if x = a then b else l.getD x 0 := jn_getD l a b x ha hb
theorem jnn_keep {n : Nat} {ws : List Int} (hw : WOk n ws) {M : List Nat} (hM : M.length = 4 * ws.length) {p i j p' i' j' : Nat} (h : CN (TP ws p) ws.length i j) (h' : CN (TP ws p') ws.length i' j') (hne : ¬ (i = i' ∧ p = p')) (hm : M.getD (dO ws i' p') 0 = dI ws j' p' ∧ M.getD (dI ws j' p') 0 = dO ws i' p') :
 (jnn M (dO ws i p) (dI ws j p)).getD (dO ws i' p') 0 = dI ws j' p' ∧ (jnn M (dO ws i p) (dI ws j p)).getD (dI ws j' p') 0 = dO ws i' p' := by
 have a1 : dO ws i p < M.length := by rw [hM]; exact dO_lt h.2.2.1
 have a2 : dI ws j p < M.length := by rw [hM]; exact dI_lt h.2.2.2.1
 rw [jnn_getD _ _ _ _ a1 a2, jnn_getD _ _ _ _ a1 a2, if_neg (dO_ne h'.1 h.2.1 (hw _ h'.2.2.1).1), if_neg, if_neg, if_neg]
 ·exact hm
 ·exact fun e => dO_ne h.1 h'.2.1 (hw _ h.2.2.1).1 e.symm
 ·intro e
  obtain ⟨rfl, rfl⟩ := dI_inj h'.2.1 h.2.1 (hw _ h'.2.2.2.1).1 e
  exact hne ⟨h.inj h', rfl⟩
 ·intro e
  obtain ⟨rfl, rfl⟩ := dO_inj h'.1 h.1 (hw _ h'.2.2.1).1 e
  exact hne ⟨rfl, rfl⟩
theorem jnn_put {n : Nat} {ws : List Int} (hw : WOk n ws) {M : List Nat} (hM : M.length = 4 * ws.length) {p i j : Nat} (h : CN (TP ws p) ws.length i j) :
 (jnn M (dO ws i p) (dI ws j p)).getD (dO ws i p) 0 = dI ws j p ∧ (jnn M (dO ws i p) (dI ws j p)).getD (dI ws j p) 0 = dO ws i p := by
 have a1 : dO ws i p < M.length := by rw [hM]; exact dO_lt h.2.2.1
 have a2 : dI ws j p < M.length := by rw [hM]; exact dI_lt h.2.2.2.1
 rw [jnn_getD _ _ _ _ a1 a2, jnn_getD _ _ _ _ a1 a2, if_neg (dO_ne h.1 h.2.1 (hw _ h.2.2.1).1), if_pos rfl, if_pos rfl]
 exact ⟨rfl, rfl⟩
structure CInv (n : Nat) (ws : List Int) (kk : Nat → Nat) (q : ClS) : Prop where
 lm : q.mt.length = 4 * ws.length
 lf : q.fi.length = n
 ll : q.la.length = n
 at_ : ∀ p, p < n → (q.la.getD p (-1) = -1 ∧ ∀ i, i < kk p → ¬ TP ws p i) ∨ ∃ i f, i < kk p ∧ TP ws p i ∧ (∀ l, i < l → l < kk p → ¬ TP ws p l) ∧ q.la.getD p (-1) = ((dO ws i p : Nat) : Int) ∧ f < kk p ∧ TP ws p f ∧ (∀ l, l < f → ¬ TP ws p l) ∧ q.fi.getD p (-1) = ((dI ws f p : Nat) : Int)
 mt : ∀ p i j, CN (TP ws p) ws.length i j → i < j → j < kk p → q.mt.getD (dO ws i p) 0 = dI ws j p ∧ q.mt.getD (dI ws j p) 0 = dO ws i p
def upd (kk : Nat → Nat) (p v : Nat) : Nat → Nat := fun r => if r = p then v else kk r
theorem CInv.pass {n : Nat} {ws : List Int} {kk : Nat → Nat} {q : ClS} (hw : WOk n ws) (h : CInv n ws kk q) {p k : Nat} (hk : k < ws.length) (hp : TP ws p k) (hkk : kk p = k) :
 CInv n ws (upd kk p (k + 1)) (clPass q p (dI ws k p) (dO ws k p)) := by
 have hpn := hw.lt hk hp
 have hl := clPass_len q p (dI ws k p) (dO ws k p)
 have e1 : upd kk p (k + 1) p = k + 1 := by unfold upd; rw [if_pos rfl]
 have e2 : ∀ r, r ≠ p → upd kk p (k + 1) r = kk r := fun r hr => by unfold upd; rw [if_neg hr]
 have hla := h.ll
 have hfi := h.lf
 have hlm := h.lm
 rcases h.at_ p hpn with ⟨g1, g2⟩ | ⟨i0, f0, g1, g2, g3, g4, g5, g6, g7, g8⟩
 ·have ec : clPass q p (dI ws k p) (dO ws k p) = ⟨q.mt, q.fi.set p ((dI ws k p : Nat) : Int), q.la.set p ((dO ws k p : Nat) : Int)⟩ := by
   unfold clPass
   rw [if_pos (by rw [g1]; omega)]
  rw [ec]
  rw [hkk] at g2
  refine ⟨hlm, by simp [hfi], by simp [hla], fun r hr => ?_, fun r i j hc hij hj => ?_⟩
  ·show ((q.la.set p ((dO ws k p : Nat) : Int)).getD r (-1) = -1 ∧ _) ∨ ∃ i f, _ ∧ _ ∧ _ ∧ (q.la.set p ((dO ws k p : Nat) : Int)).getD r (-1) = _ ∧ _ ∧ _ ∧ _ ∧ (q.fi.set p ((dI ws k p : Nat) : Int)).getD r (-1) = _
   rw [getD_setI, getD_setI]
   by_cases e : p = r
   ·subst e
    rw [if_pos ⟨rfl, by omega⟩, if_pos ⟨rfl, by omega⟩, e1]
    exact .inr ⟨k, k, by omega, hp, fun l l1 l2 => by omega, rfl, by omega, hp, fun l l1 => g2 l l1, rfl⟩
   ·rw [if_neg (fun x => e x.1), if_neg (fun x => e x.1), e2 r (fun x => e x.symm)]
    exact h.at_ r hr
  ·by_cases e : r = p
   ·subst e
    rw [e1] at hj
    exact absurd hc.1 (g2 i (by omega))
   ·rw [e2 r e] at hj
    exact h.mt r i j hc hij hj
 ·have ec : clPass q p (dI ws k p) (dO ws k p) = ⟨jnn q.mt (dO ws i0 p) (dI ws k p), q.fi, q.la.set p ((dO ws k p : Nat) : Int)⟩ := by
   unfold clPass
   rw [g4, if_neg (by omega), Int.toNat_natCast]
  rw [ec]
  rw [hkk] at g1 g3 g5
  have hc0 : CN (TP ws p) ws.length i0 k := ⟨g2, hp, by omega, hk, .inl ⟨g1, g3⟩⟩
  refine ⟨by show (jnn _ _ _).length = _; rw [jnn_len, hlm], hfi, by simp [hla], fun r hr => ?_, fun r i j hc hij hj => ?_⟩
  ·show ((q.la.set p ((dO ws k p : Nat) : Int)).getD r (-1) = -1 ∧ _) ∨ ∃ i f, _ ∧ _ ∧ _ ∧ (q.la.set p ((dO ws k p : Nat) : Int)).getD r (-1) = _ ∧ _ ∧ _ ∧ _ ∧ q.fi.getD r (-1) = _
   rw [getD_setI]
   by_cases e : p = r
   ·subst e
    rw [if_pos ⟨rfl, by omega⟩, e1]
    exact .inr ⟨k, f0, by omega, hp, fun l l1 l2 => by omega, rfl, by omega, g6, g7, g8⟩
   ·rw [if_neg (fun x => e x.1), e2 r (fun x => e x.symm)]
    exact h.at_ r hr
  ·by_cases e : i0 = i ∧ p = r
   ·obtain ⟨rfl, rfl⟩ := e
    obtain rfl := hc0.fn hc
    exact jnn_put hw hlm hc0
   ·refine jnn_keep hw hlm hc0 hc e (h.mt r i j hc hij ?_)
    by_cases er : r = p
    ·subst er
     rw [e1] at hj
     rw [hkk]
     rcases Nat.lt_or_ge j k with hjk | hjk
     ·exact hjk
     ·obtain rfl : j = k := by omega
      exact absurd ⟨hc0.inj hc, rfl⟩ e
    ·rw [e2 r er] at hj
     exact hj
theorem CInv.widen {n : Nat} {ws : List Int} {kk k2 : Nat → Nat} {q : ClS} (h : CInv n ws kk q) (hle : ∀ p, kk p ≤ k2 p) (hno : ∀ p i, kk p ≤ i → i < k2 p → ¬ TP ws p i) : CInv n ws k2 q := by
 refine ⟨h.lm, h.lf, h.ll, fun p hp => ?_, fun p i j hc hij hj => ?_⟩
 ·rcases h.at_ p hp with ⟨g1, g2⟩ | ⟨i0, f0, g1, g2, g3, g4, g5, g6, g7, g8⟩
  ·refine .inl ⟨g1, fun i hi => ?_⟩
   rcases Nat.lt_or_ge i (kk p) with h' | h'
   ·exact g2 i h'
   ·exact hno p i h' hi
  ·have := hle p
   refine .inr ⟨i0, f0, by omega, g2, fun l l1 l2 => ?_, g4, by omega, g6, g7, g8⟩
   rcases Nat.lt_or_ge l (kk p) with h' | h'
   ·exact g3 l l1 h'
   ·exact hno p l h' l2
 ·rcases Nat.lt_or_ge j (kk p) with h' | h'
  ·exact h.mt p i j hc hij h'
  ·exact absurd hc.2.1 (hno p j h' hj)
theorem clStep_eq (q : ClS) (ws : List Int) (k : Nat) (h0 : 1 ≤ (ws.getD k 0).natAbs) :
 clStep q k (ws.getD k 0) = clPass (clPass q ((ws.getD k 0).natAbs - 1) (dI ws k ((ws.getD k 0).natAbs - 1)) (dO ws k ((ws.getD k 0).natAbs - 1))) (ws.getD k 0).natAbs (dI ws k (ws.getD k 0).natAbs) (dO ws k (ws.getD k 0).natAbs) := by
 have e1 : ((ws.getD k 0).natAbs - 1 == (ws.getD k 0).natAbs) = false := by rw [beq_eq_false_iff_ne]; omega
 have e2 : ((ws.getD k 0).natAbs == (ws.getD k 0).natAbs) = true := by simp
 unfold clStep dI dO
 rw [e1, e2]
 unfold slt
 by_cases hx : ws.getD k 0 < 0
 ·simp only [if_pos hx]
  rfl
 ·simp only [if_neg hx]
  rfl
theorem clK_inv {n : Nat} {ws : List Int} (hw : WOk n ws) : ∀ k, k ≤ ws.length → CInv n ws (fun _ => k) (clK n ws k)
 | 0, _ => by
   refine ⟨by simp [clK], by simp [clK], by simp [clK], fun p hp => .inl ⟨?_, fun i hi => by omega⟩, fun p i j _ _ hj => by omega⟩
   show (List.replicate n (-1 : Int)).getD p (-1) = -1
   rw [List.getD_eq_getElem?_getD, List.getElem?_replicate]
   split <;> rfl
 | k + 1, hk => by
   have ih := clK_inv hw k (by omega)
   have hx := hw k (by omega)
   have h1 := ih.pass hw (p := (ws.getD k 0).natAbs - 1) (show k < ws.length by omega) (by unfold TP tcp; omega) rfl
   have h2 := h1.pass hw (p := (ws.getD k 0).natAbs) (k := k) (show k < ws.length by omega) (by unfold TP tcp; omega) (by unfold upd; rw [if_neg (by have := hx.1; omega)])
   show CInv n ws (fun _ => k + 1) (clStep (clK n ws k) k (ws.getD k 0))
   rw [clStep_eq _ _ _ hx.1]
   refine h2.widen (fun p => ?_) (fun p i hi1 hi2 hT => ?_)
   ·unfold upd
    dsimp only
    split
    ·omega
    ·split <;> omega
   ·unfold upd at hi1
    dsimp only at hi1 hi2
    split at hi1
    ·omega
    ·split at hi1
     ·omega
     ·obtain rfl : i = k := by omega
      unfold TP tcp at hT
      omega
def nxF (ws : List Int) (i p : Nat) : Nat → Nat → Int
 | 0, _ => -1
 | f + 1, k => if tcp (ws.getD ((i + k) % ws.length) 0) p then (((i + k) % ws.length : Nat) : Int) else nxF ws i p f (k + 1)
def nxW (ws : List Int) (i p : Nat) : Int := nxF ws i p ws.length 0
theorem nxF_spec (ws : List Int) (i p : Nat) : ∀ f k, (nxF ws i p f k = -1 ∧ ∀ q, k ≤ q → q < k + f → ¬ TP ws p ((i + q) % ws.length)) ∨ ∃ q, k ≤ q ∧ q < k + f ∧ TP ws p ((i + q) % ws.length) ∧ (∀ l, k ≤ l → l < q → ¬ TP ws p ((i + l) % ws.length)) ∧ nxF ws i p f k = (((i + q) % ws.length : Nat) : Int)
 | 0, k => .inl ⟨rfl, fun q h1 h2 => by omega⟩
 | f + 1, k => by
   unfold nxF
   by_cases ht : tcp (ws.getD ((i + k) % ws.length) 0) p
   ·rw [if_pos ht]
    exact .inr ⟨k, Nat.le_refl _, by omega, ht, fun l l1 l2 => by omega, rfl⟩
   ·rw [if_neg ht]
    rcases nxF_spec ws i p f (k + 1) with ⟨h1, h2⟩ | ⟨q, h1, h2, h3, h4, h5⟩
    ·refine .inl ⟨h1, fun q q1 q2 => ?_⟩
     rcases Nat.lt_or_ge k q with h' | h'
     ·exact h2 q (by omega) (by omega)
     ·rw [show q = k by omega]; exact ht
    ·refine .inr ⟨q, by omega, by omega, h3, fun l l1 l2 => ?_, h5⟩
     rcases Nat.lt_or_ge k l with h' | h'
     ·exact h4 l (by omega) l2
     ·rw [show l = k by omega]; exact ht
theorem nxW_CN {ws : List Int} {i p : Nat} (hi : i < ws.length) (hT : TP ws p i) : ∃ j, nxW ws (i + 1) p = ((j : Nat) : Int) ∧ CN (TP ws p) ws.length i j := by
 obtain ⟨L, hL⟩ : ∃ L, L = ws.length := ⟨_, rfl⟩
 have hs := nxF_spec ws (i + 1) p ws.length 0
 rw [← hL] at hi
 unfold nxW
 simp only [← hL] at hs ⊢
 have hlast : (i + 1 + (L - 1)) % L = i := by rw [show i + 1 + (L - 1) = i + L by omega, Nat.add_mod_right, Nat.mod_eq_of_lt hi]
 rcases hs with ⟨h1, h2⟩ | ⟨q, h1, h2, h3, h4, h5⟩
 ·exact absurd hT (by have := h2 (L - 1) (by omega) (by omega); rwa [hlast] at this)
 ·refine ⟨_, h5, ?_⟩
  rcases Nat.lt_or_ge (i + 1 + q) L with hq | hq
  ·rw [Nat.mod_eq_of_lt hq] at h3 ⊢
   refine ⟨hT, h3, hi, hq, .inl ⟨by omega, fun l l1 l2 => ?_⟩⟩
   have := h4 (l - i - 1) (by omega) (by omega)
   rwa [show i + 1 + (l - i - 1) = l by omega, Nat.mod_eq_of_lt (by omega)] at this
  ·have em : (i + 1 + q) % L = i + 1 + q - L := by rw [Nat.mod_eq_sub_mod hq, Nat.mod_eq_of_lt (by omega)]
   rw [em] at h3 ⊢
   refine ⟨hT, h3, hi, by omega, .inr ⟨by omega, fun l l1 l2 => ?_, fun l l1 => ?_⟩⟩
   ·have := h4 (l - i - 1) (by omega) (by omega)
    rwa [show i + 1 + (l - i - 1) = l by omega, Nat.mod_eq_of_lt (by omega)] at this
   ·have := h4 (l + L - i - 1) (by omega) (by omega)
    rwa [show i + 1 + (l + L - i - 1) = l + L by omega, Nat.add_mod_right, Nat.mod_eq_of_lt (by omega)] at this
theorem nxW_neg {ws : List Int} {p : Nat} : nxW ws 0 p < 0 ↔ ∀ i, i < ws.length → ¬ TP ws p i := by
 have hs := nxF_spec ws 0 p ws.length 0
 unfold nxW
 constructor
 ·intro h i hi hT
  rcases hs with ⟨h1, h2⟩ | ⟨q, h1, h2, h3, h4, h5⟩
  ·have := h2 i (by omega) (by omega)
   rw [Nat.zero_add, Nat.mod_eq_of_lt hi] at this
   exact this hT
  ·omega
 ·intro h
  rcases hs with ⟨h1, h2⟩ | ⟨q, h1, h2, h3, h4, h5⟩
  ·omega
  ·rw [Nat.zero_add, Nat.mod_eq_of_lt (by omega)] at h3
   exact absurd h3 (h q (by omega))
def rcJ (ws : List Int) (mt : List Nat) (i s : Nat) : List Nat :=
 let x := ws.getD i 0
 let p := x.natAbs - 1 + s
 let j := (nxW ws (i + 1) p).toNat
 let y := ws.getD j 0
 jnn mt (4 * i + slt x true (s == 1)) (4 * j + slt y false (p == y.natAbs))
def rcK (ws : List Int) : Nat → List Nat
 | 0 => List.replicate (4 * ws.length) 0
 | i + 1 => rcJ ws (rcJ ws (rcK ws i) i 0) i 1
def rcL (ws : List Int) : Nat → Nat
 | 0 => 0
 | p + 1 => rcL ws p + if nxW ws 0 p < 0 then 1 else 0
theorem rcJ_eq {ws : List Int} (mt : List Nat) {i s : Nat} (hi : i < ws.length) (h0 : 1 ≤ (ws.getD i 0).natAbs) (hs : s < 2) : ∃ j, CN (TP ws ((ws.getD i 0).natAbs - 1 + s)) ws.length i j ∧ rcJ ws mt i s = jnn mt (dO ws i ((ws.getD i 0).natAbs - 1 + s)) (dI ws j ((ws.getD i 0).natAbs - 1 + s)) := by
 obtain ⟨j, h1, h2⟩ := nxW_CN hi (p := (ws.getD i 0).natAbs - 1 + s) (by unfold TP tcp; omega)
 refine ⟨j, h2, ?_⟩
 unfold rcJ dO dI
 simp only [h1, Int.toNat_natCast]
 rw [show ((ws.getD i 0).natAbs - 1 + s == (ws.getD i 0).natAbs) = (s == 1) by
  rw [Bool.eq_iff_iff, beq_iff_eq, beq_iff_eq]
  omega]
def RGood (ws : List Int) (k b : Nat) (M : List Nat) : Prop := M.length = 4 * ws.length ∧ ∀ p i j, CN (TP ws p) ws.length i j → (i < k ∨ (i = k ∧ p < b)) → M.getD (dO ws i p) 0 = dI ws j p ∧ M.getD (dI ws j p) 0 = dO ws i p
theorem RGood.step {n : Nat} {ws : List Int} (hw : WOk n ws) {M : List Nat} {k s : Nat} (hk : k < ws.length) (hs : s < 2) (h : RGood ws k ((ws.getD k 0).natAbs - 1 + s) M) : RGood ws k ((ws.getD k 0).natAbs - 1 + (s + 1)) (rcJ ws M k s) := by
 obtain ⟨j0, h0, e⟩ := rcJ_eq M hk (hw k hk).1 hs
 rw [e]
 refine ⟨by rw [jnn_len]; exact h.1, fun p i j hc hi => ?_⟩
 by_cases e1 : k = i ∧ (ws.getD k 0).natAbs - 1 + s = p
 ·obtain ⟨rfl, rfl⟩ := e1
  obtain rfl := h0.fn hc
  exact jnn_put hw h.1 h0
 ·refine jnn_keep hw h.1 h0 hc e1 (h.2 p i j hc ?_)
  omega
theorem rcK_good {n : Nat} {ws : List Int} (hw : WOk n ws) : ∀ k, k ≤ ws.length → RGood ws k 0 (rcK ws k)
 | 0, _ => ⟨by simp [rcK], fun p i j _ h => by omega⟩
 | k + 1, hk => by
   have ih := rcK_good hw k (by omega)
   have h0 : RGood ws k ((ws.getD k 0).natAbs - 1 + 0) (rcK ws k) := ⟨ih.1, fun p i j hc hi => by
    refine ih.2 p i j hc ?_
    rcases hi with h | ⟨rfl, h⟩
    ·exact .inl h
    ·have := hc.1
     unfold TP tcp at this
     omega⟩
   have h2 := (h0.step hw (show k < ws.length by omega) (by omega)).step hw (show k < ws.length by omega) (by omega)
   refine ⟨h2.1, fun p i j hc hi => h2.2 p i j hc ?_⟩
   rcases Nat.lt_or_ge i k with h | h
   ·exact .inl h
   ·obtain rfl : i = k := by omega
    have := hc.1
    unfold TP tcp at this
    exact .inr ⟨rfl, by omega⟩
theorem rcK_cgood {n : Nat} {ws : List Int} (hw : WOk n ws) : CGood ws (rcK ws ws.length) := by
 have h := rcK_good hw ws.length (Nat.le_refl _)
 exact ⟨h.1, fun p i j hc => h.2 p i j hc (.inl hc.2.2.1)⟩
theorem clEnd_good {n : Nat} {ws : List Int} (hw : WOk n ws) {q : ClS} (h : CInv n ws (fun _ => ws.length) q) : ∀ P, P ≤ n → ((clEnd q P).1.length = 4 * ws.length ∧ ∀ p i j, CN (TP ws p) ws.length i j → (i < j ∨ p < P) → (clEnd q P).1.getD (dO ws i p) 0 = dI ws j p ∧ (clEnd q P).1.getD (dI ws j p) 0 = dO ws i p) ∧ (clEnd q P).2 = rcL ws P
 | 0, _ => ⟨⟨h.lm, fun p i j hc hi => h.mt p i j hc (by omega) hc.2.2.2.1⟩, rfl⟩
 | P + 1, hP => by
   obtain ⟨⟨i1, i2⟩, i3⟩ := clEnd_good hw h P (by omega)
   rcases h.at_ P (by omega) with ⟨g1, g2⟩ | ⟨i0, f0, g1, g2, g3, g4, g5, g6, g7, g8⟩
   ·have e : clEnd q (P + 1) = ((clEnd q P).1, (clEnd q P).2 + 1) := by
     show (if q.la.getD P (-1) < 0 then _ else _) = _
     rw [if_pos (by omega)]
    have hn : nxW ws 0 P < 0 := nxW_neg.mpr g2
    rw [e]
    refine ⟨⟨i1, fun p i j hc hi => i2 p i j hc ?_⟩, ?_⟩
    ·rcases hi with h' | h'
     ·exact .inl h'
     ·rcases Nat.lt_or_ge p P with hp | hp
      ·exact .inr hp
      ·obtain rfl : p = P := by omega
       exact absurd hc.1 (g2 i hc.2.2.1)
    ·show (clEnd q P).2 + 1 = rcL ws P + (if nxW ws 0 P < 0 then 1 else 0)
     rw [if_pos hn, i3]
   ·have e : clEnd q (P + 1) = (jnn (clEnd q P).1 (dO ws i0 P) (dI ws f0 P), (clEnd q P).2) := by
     show (if q.la.getD P (-1) < 0 then _ else _) = _
     rw [g4, if_neg (by omega), g8]
     rfl
    have hn : ¬ nxW ws 0 P < 0 := fun h' => nxW_neg.mp h' i0 g1 g2
    have hfi : f0 ≤ i0 := by
     rcases Nat.lt_or_ge i0 f0 with h' | h'
     ·exact absurd g2 (g7 i0 h')
     ·exact h'
    have hc0 : CN (TP ws P) ws.length i0 f0 := ⟨g2, g6, g1, g5, .inr ⟨hfi, g3, g7⟩⟩
    rw [e]
    refine ⟨⟨by rw [jnn_len]; exact i1, fun p i j hc hi => ?_⟩, ?_⟩
    ·by_cases e1 : i0 = i ∧ P = p
     ·obtain ⟨rfl, rfl⟩ := e1
      obtain rfl := hc0.fn hc
      exact jnn_put hw i1 hc0
     ·refine jnn_keep hw i1 hc0 hc e1 (i2 p i j hc ?_)
      rcases hi with h' | h'
      ·exact .inl h'
      ·rcases Nat.lt_or_ge p P with hp | hp
       ·exact .inr hp
       ·obtain rfl : p = P := by omega
        rcases hc.2.2.2.2 with hh | ⟨d1, d2, d3⟩
        ·exact .inl hh.1
        ·refine absurd ⟨?_, rfl⟩ e1
         rcases Nat.lt_trichotomy i i0 with hlt | rfl | hlt
         ·exact absurd g2 (d2 i0 hlt g1)
         ·rfl
         ·exact absurd hc.1 (g3 i hlt hc.2.2.1)
    ·show (clEnd q P).2 = rcL ws P + (if nxW ws 0 P < 0 then 1 else 0)
     rw [if_neg hn, i3]
     rfl
theorem clD_ref {n : Nat} {ws : List Int} (hw : WOk n ws) : clD n ws = ⟨clSg ws, rcK ws ws.length, rcL ws n⟩ := by
 obtain ⟨⟨h1, h2⟩, h3⟩ := clEnd_good hw (clK_inv hw ws.length (Nat.le_refl _)) n (Nat.le_refl _)
 have hg : CGood ws (clEnd (clK n ws ws.length) n).1 := ⟨h1, fun p i j hc => h2 p i j hc (.inr (hw.lt hc.2.2.1 hc.1))⟩
 unfold clD
 rw [hg.uniq hw (rcK_cgood hw), h3]
theorem clD_good {n : Nat} {ws : List Int} (hw : WOk n ws) : CGood ws (clD n ws).mt := by
 rw [clD_ref hw]
 exact rcK_cgood hw
end Go.Proofs.YtcaoblilkgajoaaDoor.Pl
end
