/-
 The texts Val, Shr, Wj, Wk, Wl, Wm, Cyc, Wr, Prt, Rb, Rc, Xa, Xe, Ws, Wt, Wu, Wo, Wp, Wn, Wx, Xc, Xd, Dc in one.
-/
import Derived.Test.YtcaoblilkgajoaaDoorG03
import Derived.Test.YtcaoblilkgajoaaDoorShelf
import Derived.Deep.AppendLies
import Derived.Maps.AppendAt
import Derived.Deep.RegionLaw
import Derived.StillTailTactics
import Derived.Deep.RegionHeld3
import Derived.Deep.DrawnRows
import Derived.Deep.DeepCutAuto
import Derived.RegionTactic
import Derived.Outline
import Derived.Deep.CutBlock
import Derived.Laws.MakeOwn
import Derived.Deep.RegionWith
set_option linter.unusedVariables false
set_option linter.unusedSimpArgs false
section
namespace Go.Proofs.YtcaoblilkgajoaaDoor
open Go.RowKit
theorem ints_pv {w : World} {A : Option Addr} {n k : Nat} {zs : List Int} (h : IntsAt w A n zs) (hk : k < n) :
 ∃ b o, A = some ⟨b, o, none⟩ ∧ w.cell? ⟨b, o + k, none⟩ = some (.int .i64 (Pl.pv zs k)) := h.at_ hk
set_option maxRecDepth 100000 in
set_option maxHeartbeats 1500000 in
theorem valid_any (sg mt : List Int) (lp : Int) (A B : Option Addr) (n q cp cq : Nat) (w : World) (hs : IntsAt w A n sg) (hm : IntsAt w B q mt) (hn : n ≤ maxLen) (hq : q ≤ maxLen) (hlp : -9223372036854775808 ≤ lp ∧ lp ≤ 9223372036854775807) :
 Calls Tryd.prog 30 #[.agg #[.slice A n cp, .slice B q cq, .int .i64 lp]] w fun e w' => e = .returned (.bool (Pl.vb (Pl.VL sg mt lp))) ∧ Below w.heap.size w w' := by
 unfold maxLen at hn hq
 have HLS := hide hs.len
 have HLM := hide hm.len
 have b0 : Below w.heap.size w (w.alloc (.cells #[.slice A n cp, .slice B q cq, .int .i64 lp] 28)) := (Below.refl _ _).alloc (Nat.le_refl _) _
 by_cases h1 : 64 < n
 ·have HV := hide (fun h : Pl.VL sg mt lp => show False by have := h.few; have := HLS.out; omega)
  go_enter Tryd.func30, Tryd.ntmps30
  go_wp2
  go_ret
  exact ⟨ret_bool (Pl.vb_false HV.out).symm, b0⟩
 ·have h1' : decide (64 < (n : Int)) = false := by simp; omega
  by_cases h2 : q = 4 * n
  ·by_cases h3 : 0 ≤ lp ∧ lp ≤ 64
   ·have h2' : (((q : Nat) : Int) != 4 * (n : Int)) = false := by simp; omega
    have h3a : decide (lp < 0) = false := by simp; omega
    have h3b : decide (64 < lp) = false := by simp; omega
    have HQ4 := hide h2
    have hq6 : q ≤ 256 := by omega
    clear h2
    have x0 : Row (w.alloc (.cells #[.slice A n cp, .slice B q cq, .int .i64 lp] 28)) w.heap.size 28 (boxV A B n cp q cq (.int .i64 lp)) := Row.new w _ _
    go_enter Tryd.func30, Tryd.ntmps30
    go_wp2
    have B0 := hide b0
    have X0 := hide x0
    clear b0 x0 h1' h2' h3a h3b
    go_loopg [34] n (fun g i wx => ∃ k : Nat, k + g = n ∧ i = .int .i64 k ∧ (∀ c, c < k → Pl.pv sg c = 1 ∨ Pl.pv sg c = -1) ∧ Below w.heap.size w wx ∧ Row wx w.heap.size 28 (boxV A B n cp q cq (.int .i64 lp)))
    case atStart => exact ⟨0, by omega, rfl, fun c hc => absurd hc (by omega), B0.out, X0.out⟩
    case round =>
     clear B0 X0
     obtain ⟨k, hkg, rfl, hsg, b1, x1⟩ := hrel
     have HG := hide hkg
     have HSG := hide hsg
     have hkn : k ≤ n := by omega
     clear hkg hsg
     by_cases hlt : k < n
     ·obtain ⟨ab, ao, rfl, hc⟩ := ints_pv hs hlt
      have hc1 := cell_below hc b1
      have B1 := hide b1
      have X1 := hide x1
      clear b1 x1 hc
      by_cases hz : Pl.pv sg k = 1
      ·have HZ := hide hz
       rw [hz] at hc1
       clear hz
       go_wp2
       go_roundg (gk - 1)
       case measure => have := HG.out; omega
       case rel =>
        refine ⟨k + 1, by have := HG.out; omega, by go_num, fun c hc => ?_, B1.out, X1.out⟩
        by_cases e : c = k
        ·rw [e]; exact .inl HZ.out
        ·exact HSG.out c (by omega)
      ·by_cases hz2 : Pl.pv sg k = -1
       ·have HZ := hide hz2
        rw [hz2] at hc1
        clear hz hz2
        go_wp2
        go_roundg (gk - 1)
        case measure => have := HG.out; omega
        case rel =>
         refine ⟨k + 1, by have := HG.out; omega, by go_num, fun c hc => ?_, B1.out, X1.out⟩
         by_cases e : c = k
         ·rw [e]; exact .inr HZ.out
         ·exact HSG.out c (by omega)
       ·have HV := hide (fun h : Pl.VL sg mt lp => show False by
         rcases h.sign (c := k) (by have := HLS.out; omega) with e | e
         ·exact hz e
         ·exact hz2 e)
        have t1 : (Pl.pv sg k != 1) = true := by rw [bne_iff_ne]; exact hz
        have t2 : (Pl.pv sg k != -1) = true := by rw [bne_iff_ne]; exact hz2
        clear hz hz2
        go_wp2
        go_ret
        exact ⟨ret_bool (Pl.vb_false HV.out).symm, B1.out⟩
     ·have HSG' := hide (fun (c : Nat) (hc : c < sg.length) => HSG.out c (by have := HLS.out; omega))
      have B1 := hide b1
      have X1 := hide x1
      have x1c : wr.cell? ⟨w.heap.size, 1, none⟩ = some (.slice B q cq) := x1.cell (i := 1) (by show 1 < 3; omega)
      clear b1 x1 HSG HG
      go_wp2
      clear x1c
      go_loopg [48] q (fun g i wx => ∃ k : Nat, k + g = q ∧ i = .int .i64 k ∧ (∀ h, h < k → 0 ≤ Pl.pv mt h ∧ Pl.pv mt h < mt.length ∧ Pl.pv mt h ≠ h ∧ Pl.pv mt (Pl.pv mt h).toNat = h ∧ Pl.out (Pl.mk sg mt lp) h ≠ Pl.out (Pl.mk sg mt lp) (Pl.pv mt h).toNat) ∧ Below w.heap.size w wx ∧ Row wx w.heap.size 28 (boxV A B n cp q cq (.int .i64 lp)))
      case atStart => exact ⟨0, by omega, rfl, fun c hc => absurd hc (by omega), B1.out, X1.out⟩
      case round =>
       clear B1 X1
       obtain ⟨j, hjg, rfl, hmo, b2, x2⟩ := hrel
       have HG := hide hjg
       have HMO := hide hmo
       have hjq : j ≤ q := by omega
       clear hjg hmo
       by_cases hlt2 : j < q
       ·obtain ⟨bb, bo, rfl, hc⟩ := ints_pv hm hlt2
        have hc1 := cell_below hc b2
        have x2c : wr.cell? ⟨w.heap.size, 1, none⟩ = some (.slice (some ⟨bb, bo, none⟩) q cq) := x2.cell (i := 1) (by show 1 < 3; omega)
        have hjl : j < mt.length := by have := HLM.out; omega
        have B2 := hide b2
        have X2 := hide x2
        clear b2 x2 hc
        by_cases hz0 : Pl.pv mt j < 0
        ·have HV := hide (fun h : Pl.VL sg mt lp => show False by have := (h.mate hjl).1; omega)
         have t1 : decide (Pl.pv mt j < 0) = true := by simpa using hz0
         clear hz0
         go_wp2
         go_ret
         exact ⟨ret_bool (Pl.vb_false HV.out).symm, B2.out⟩
        ·have t1 : decide (Pl.pv mt j < 0) = false := by simpa using hz0
         by_cases hz1 : Pl.pv mt j < q
         ·obtain ⟨t, ht⟩ : ∃ t : Nat, Pl.pv mt j = t := ⟨(Pl.pv mt j).toNat, by omega⟩
          have htq : t < q := by omega
          have t2 : decide (4 * (n : Int) ≤ (t : Int)) = false := by have := HQ4.out; simp; omega
          rw [ht] at hc1 t1
          have HT := hide ht
          have hj4 : j < 4 * n := by have := HQ4.out; omega
          have ht4 : t < 4 * n := by have := HQ4.out; omega
          clear hz0 hz1 ht
          by_cases htj : t = j
          ·have HV := hide (fun h : Pl.VL sg mt lp => show False by have := (h.mate hjl).2.2.1; rw [HT.out] at this; omega)
           have t3 : (((t : Nat) : Int) == (j : Int)) = true := by simp; omega
           clear htj
           go_wp2
           go_ret
           exact ⟨ret_bool (Pl.vb_false HV.out).symm, B2.out⟩
          ·have t3 : (((t : Nat) : Int) == (j : Int)) = false := by simp; omega
           obtain ⟨bb', bo', ebb, hcb⟩ := ints_pv hm htq
           injection ebb with ebb
           injection ebb with ebb1 ebb2
           subst ebb1; subst ebb2
           have hc2 := cell_below hcb B2.out
           clear hcb
           by_cases hinv : Pl.pv mt t = j
           ·have HI := hide hinv
            rw [hinv] at hc2
            clear hinv
            have HSS := hide (fun (p : Cls (fun w' => Row w' w.heap.size 28 (boxV A (some ⟨bb, bo, none⟩) n cp q cq (.int .i64 lp)) ∧ Below w.heap.size w w')) (h : Nat) (hh : h < 4 * n) =>
             calls_cls (C := fun w' => Row w' w.heap.size 28 (boxV A (some ⟨bb, bo, none⟩) n cp q cq (.int .i64 lp)) ∧ Below w.heap.size w w')
              (out_n (Pl.mk sg mt lp) A (some ⟨bb, bo, none⟩) n cp q cq (.int .i64 lp) h p.w HLS.out.symm hh (by omega) (hs.keep p.ok.2)) (fun e w' h => ⟨h.1, p.ok.1.below h.2, p.ok.2.trans (h.2.mono p.ok.2.size)⟩))
            have c30 : ∀ p : Cls (fun w' => Row w' w.heap.size 28 (boxV A (some ⟨bb, bo, none⟩) n cp q cq (.int .i64 lp)) ∧ Below w.heap.size w w'), p.w.cell? ⟨w.heap.size, 0, none⟩ = some (.slice A n cp) := fun p => p.ok.1.cell (i := 0) (by show 0 < 3; omega)
            have c31 : ∀ p : Cls (fun w' => Row w' w.heap.size 28 (boxV A (some ⟨bb, bo, none⟩) n cp q cq (.int .i64 lp)) ∧ Below w.heap.size w w'), p.w.cell? ⟨w.heap.size, 1, none⟩ = some (.slice (some ⟨bb, bo, none⟩) q cq) := fun p => p.ok.1.cell (i := 1) (by show 1 < 3; omega)
            have c32 : ∀ p : Cls (fun w' => Row w' w.heap.size 28 (boxV A (some ⟨bb, bo, none⟩) n cp q cq (.int .i64 lp)) ∧ Below w.heap.size w w'), p.w.cell? ⟨w.heap.size, 2, none⟩ = some (.int .i64 lp) := fun p => p.ok.1.cell (i := 2) (by show 2 < 3; omega)
            go_wp2
            refine wp_region_cls (fun w' => Row w' w.heap.size 28 (boxV A (some ⟨bb, bo, none⟩) n cp q cq (.int .i64 lp)) ∧ Below w.heap.size w w') (by kernel_rfl) (by kernel_rfl) ⟨X2.out.drew, B2.out.drew⟩ (fun hne => ?_)
            repeat (quiet_step ((go_at_call 56; exact HSS.out _ _ (by omega))))
            refine wpQuiet_nil ?_
            rintro _ ⟨p, rfl⟩
            have hp1 := hide p.ok.1
            have hp2 := hide p.ok.2
            clear HSS c30 c31 c32
            go_wp2
            ·have t5 : (Pl.out (Pl.mk sg mt lp) j == Pl.out (Pl.mk sg mt lp) t) = true := by assumption
             go_ret
             refine ⟨ret_bool (Pl.vb_false fun h => ?_).symm, hp2.out⟩
             have h5 := (h.mate hjl).2.2.2.2
             rw [HT.out, Int.toNat_natCast] at h5
             exact h5 (beq_iff_eq.1 t5)
            ·have t5 : (Pl.out (Pl.mk sg mt lp) j == Pl.out (Pl.mk sg mt lp) t) = false := by assumption
             go_roundg (gk - 1)
             case measure => have := HG.out; omega
             case rel =>
              refine ⟨j + 1, by have := HG.out; omega, by go_num, fun h hh => ?_, hp2.out, hp1.out⟩
              by_cases e : h = j
              ·subst e
               rw [HT.out, Int.toNat_natCast]
               exact ⟨by omega, by have := HLM.out; omega, by omega, HI.out, beq_eq_false_iff_ne.1 t5⟩
              ·exact HMO.out h (by omega)
           ·have HV := hide (fun h : Pl.VL sg mt lp => show False by
             have := (h.mate hjl).2.2.2.1
             rw [HT.out, Int.toNat_natCast] at this
             exact hinv this)
            have t4 : (Pl.pv mt t != (j : Int)) = true := by rw [bne_iff_ne]; exact hinv
            clear hinv
            go_wp2
            go_ret
            exact ⟨ret_bool (Pl.vb_false HV.out).symm, B2.out⟩
         ·have HV := hide (fun h : Pl.VL sg mt lp => show False by have := (h.mate hjl).2.1; have := HLM.out; omega)
          have t2 : decide (4 * (n : Int) ≤ Pl.pv mt j) = true := by have := HQ4.out; simp; omega
          clear hz0 hz1
          go_wp2
          go_ret
          exact ⟨ret_bool (Pl.vb_false HV.out).symm, B2.out⟩
       ·have hjq' : j = q := by omega
        have hw := Pl.wf_of (sg := sg) (mt := mt) (lp := lp) (by have := HLS.out; omega) (by have := HLS.out; have := HLM.out; have := HQ4.out; omega) h3 HSG'.out (fun k hk => HMO.out k (by have := HLM.out; omega))
        have hpos : ∀ z, z ∈ mt → 0 ≤ z := fun z hz => by
         obtain ⟨k, hk, rfl⟩ := Pl.mem_pv hz
         exact (HMO.out k (by have := HLM.out; omega)).1
        have HW := hide hw
        have HR := hide (Pl.VL.of hw hpos h3.1)
        have HN := hide (Pl.nats_mk (sg := sg) (lp := lp) hpos)
        have B2 := hide b2
        have x20 : wr.cell? ⟨w.heap.size, 0, none⟩ = some (.slice A n cp) := x2.cell (i := 0) (by show 0 < 3; omega)
        have x21 : wr.cell? ⟨w.heap.size, 1, none⟩ = some (.slice B q cq) := x2.cell (i := 1) (by show 1 < 3; omega)
        have x22 : wr.cell? ⟨w.heap.size, 2, none⟩ = some (.int .i64 lp) := x2.cell (i := 2) (by show 2 < 3; omega)
        clear b2 x2 hw hpos hjq'
        go_wp2_with fail
        refine (spherical_n (Pl.mk sg mt lp) HW.out A B n q cp cq (.int .i64 lp) _ HLS.out.symm (by have := HQ4.out; have := HLS.out; rw [Pl.mk_n]; omega) ?_ ⟨?_, ?_⟩).mono ?_
        ·show Value.int .i64 lp = .int .i64 ((lp.toNat : Nat) : Int)
         rw [Int.toNat_of_nonneg h3.1]
        ·rw [Pl.mk_n, HLS.out]; exact hs.keep B2.out
        ·unfold nats
         rw [HN.out, Pl.mk_n, HLS.out, ← HQ4.out]; exact hm.keep B2.out
        rintro e w3 ⟨rfl, hb3⟩
        go_wp2
        go_ret
        exact ⟨ret_bool (congrArg Pl.vb (propext HR.out.symm)), B2.out.trans (hb3.mono B2.out.size)⟩
   ·have HV := hide (fun h : Pl.VL sg mt lp => show False by have := h.loops; omega)
    have h2' : (((q : Nat) : Int) != 4 * (n : Int)) = false := by simp; omega
    have HQ2 := hide h2
    clear h2
    go_enter Tryd.func30, Tryd.ntmps30
    go_wp2
    all_goals
     go_ret
     exact ⟨ret_bool (Pl.vb_false HV.out).symm, b0⟩
  ·have HV := hide (fun h : Pl.VL sg mt lp => show False by have := h.len; have := HLS.out; have := HLM.out; omega)
   have h2' : (((q : Nat) : Int) != 4 * (n : Int)) = true := by simp; omega
   go_enter Tryd.func30, Tryd.ntmps30
   go_wp2
   go_ret
   exact ⟨ret_bool (Pl.vb_false HV.out).symm, b0⟩
end Go.Proofs.YtcaoblilkgajoaaDoor
end
section
namespace Go.Proofs.YtcaoblilkgajoaaDoor.Pl
/-- The number of a half-edge when the crossings gs are removed. -/
def shf (gs : List Nat) (h : Nat) : Nat := h - 4 * (gs.filter (fun c => decide (c < h / 4))).length
/-- The crossings that stay. -/
def left (n : Nat) (gs : List Nat) : List Nat := (List.range n).filter (fun c => !gs.contains c)
def four (f : Nat → Nat) (c : Nat) : List Nat := [f (4 * c), f (4 * c + 1), f (4 * c + 2), f (4 * c + 3)]
def shrS (gs : List Nat) (sg : List Int) : List Int := (left sg.length gs).map (fun c => sg.getD c 0)
def shrM (gs : List Nat) (n : Nat) (mt : List Nat) : List Nat := (left n gs).flatMap (four (fun h => shf gs (mt.getD h 0)))
theorem left_succ (n : Nat) (gs : List Nat) : left (n + 1) gs = left n gs ++ if gs.contains n then [] else [n] := by
 unfold left
 rw [List.range_succ, List.filter_append]
 congr 1
 cases h : gs.contains n
 ·rw [List.filter_cons, if_pos (by rw [h]; rfl)]; rfl
 ·rw [List.filter_cons, if_neg (by rw [h]; decide)]; rfl
theorem left_le (n : Nat) (gs : List Nat) : (left n gs).length ≤ n := by
 unfold left
 have := List.length_filter_le (fun c => !gs.contains c) (List.range n)
 simpa using this
theorem flat4 (l : List Nat) (f : Nat → Nat) : (l.flatMap (four f)).length = 4 * l.length := by
 induction l with
 | nil => rfl
 | cons a l ih => rw [List.flatMap_cons, List.length_append, ih, List.length_cons]; unfold four; simp only [List.length_cons, List.length_nil]; omega
theorem shrM_len (gs : List Nat) (n : Nat) (mt : List Nat) : (shrM gs n mt).length = 4 * (left n gs).length := flat4 _ _
theorem shrS_len (gs : List Nat) (sg : List Int) : (shrS gs sg).length = (left sg.length gs).length := by unfold shrS; rw [List.length_map]
/-- Not more crossings are gone ahead of h than there are. -/
def Few (gs : List Nat) : Prop := ∀ q : Nat, (gs.filter (fun c => decide (c < q))).length ≤ q
theorem few_one (c : Nat) : Few [c] := by
 intro q
 by_cases e : c < q
 ·simp [List.filter_cons, e]; omega
 ·simp [List.filter_cons, e]
theorem few_two {x y : Nat} (h : x < y) : Few [x, y] := by
 intro q
 by_cases e : x < q <;> by_cases e2 : y < q <;> simp [List.filter_cons, e, e2] <;> omega
end Go.Proofs.YtcaoblilkgajoaaDoor.Pl
end
section
namespace Go.Proofs.YtcaoblilkgajoaaDoor
open Go.RowKit
theorem below_drewN {B : Nat} {a w : World} (h : Below B a w) (n : Nat) : Below B a (w.drewN n) := ⟨h.os, h.tape, h.output, h.size, h.block⟩
/-- The outgoing half-edge at which a kink would begin. -/
def kk (d : Pl.Dg) (c : Nat) : Nat := if d.m (4 * c + 2) / 4 = c then 4 * c + 2 else if d.s c = 1 then 4 * c + 1 else 4 * c + 3
end Go.Proofs.YtcaoblilkgajoaaDoor
end
section
namespace Go.Proofs.YtcaoblilkgajoaaDoor
open Go.RowKit
theorem nats_at {w : World} {A : Option Addr} {n k : Nat} {gs : List Nat} (h : IntsAt w A n (nats gs)) (hk : k < n) :
 ∃ b o, A = some ⟨b, o, none⟩ ∧ w.cell? ⟨b, o + k, none⟩ = some (.int .i64 (gs.getD k 0 : Nat)) := by
 obtain ⟨b, o, e, hc⟩ := h.at_ hk
 refine ⟨b, o, e, hc.trans ?_⟩
 have hl := h.len
 unfold nats at hl ⊢
 rw [List.length_map] at hl
 rw [List.getD_eq_getElem?_getD, List.getD_eq_getElem?_getD, List.getElem?_map, List.getElem?_eq_getElem (by omega)]; rfl
end Go.Proofs.YtcaoblilkgajoaaDoor
end
section
namespace Go.Proofs.YtcaoblilkgajoaaDoor
open Go Go.RowKit
/-- A diagram that is being written: its box, and the two rows that it owns so far. -/
structure Shk (w : World) (vS vM : Value) (ss : List Int) (ms : List Nat) (lp : Int) (W : World) : Prop where
 res : Row W w.heap.size 28 [.slice none 0 0, .slice none 0 0, .int .i64 0]
 box : Row W (w.heap.size + 1) 28 [vS, vM, .int .i64 lp]
 s : W.ownsRow (w.heap.size + 2) 3 1 vS ss.length (ss.map (.int .i64))
 m : W.ownsRow (w.heap.size + 2) 3 1 vM ms.length (ms.map (fun k : Nat => Value.int .i64 k))
 ne : ∀ g, vS.ownBlock = some g → vM.ownBlock ≠ some g
 bel : Below w.heap.size w W
theorem Shk.big {w : World} {vS vM : Value} {ss : List Int} {ms : List Nat} {lp : Int} {W : World} (h : Shk w vS vM ss ms lp W) : w.heap.size + 2 ≤ W.heap.size := by have := h.box.lt; omega
theorem Shk.below {w : World} {vS vM : Value} {ss : List Int} {ms : List Nat} {lp : Int} {W W' : World} (h : Shk w vS vM ss ms lp W) (hb : Below W.heap.size W W') : Shk w vS vM ss ms lp W' :=
 ⟨h.res.below hb, h.box.below hb, own_keep h.s hb (Nat.le_refl _), own_keep h.m hb (Nat.le_refl _), h.ne, h.bel.trans (hb.mono (by have := h.big; omega))⟩
theorem Shk.alloc {w : World} {vS vM : Value} {ss : List Int} {ms : List Nat} {lp : Int} {W : World} (h : Shk w vS vM ss ms lp W) (o : Obj) : Shk w vS vM ss ms lp (W.alloc o) := h.below ((Below.refl _ _).alloc (Nat.le_refl _) o)
theorem one_news (W : World) (x : Value) : ∀ j u, [x][j]? = some u → (W.alloc (.cells #[x] 3)).cell? ((⟨W.heap.size, 0, none⟩ : Addr).add j) = some u := by
 intro j u hu
 match j, hu with
 | 0, hu => simp at hu; subst hu; exact (Lib.cell_of_heap (heap_alloc_new W _) 0).trans rfl
end Go.Proofs.YtcaoblilkgajoaaDoor
end
section
namespace Go.Proofs.YtcaoblilkgajoaaDoor
open Go Go.RowKit
section
variable {w : World} {gi : Nat} {x0 x1 x2 y0 y1 y2 y3 y4 : Value} {W W' : World}
end
theorem own_ints' {w : World} {base : Nat} {e : TypeId} {A : Option Addr} {n c : Nat} {zs : List Int} (h : w.ownsRow base e 1 (.slice A n c) n (zs.map (.int .i64))) : IntsAt w A n zs := by
 have hl := h.1
 rcases h.2 with ⟨h1, h2⟩ | ⟨g, cap, cur, h1, _⟩
 ·subst h2
  exact ⟨by simpa using hl, fun h => absurd h (by omega)⟩
 ·injection h1 with h1 _ h3
  subst h1
  exact own_ints h
theorem map_nats (l : List Nat) : (nats l).map (Value.int .i64) = l.map (fun k : Nat => Value.int .i64 k) := by unfold nats; rw [List.map_map]; rfl
/-- The outer ends of the kink; what uncurl answers. -/
def kA (d : Pl.Dg) (c : Nat) : Nat := Pl.tn (kk d c) 2
def kB (d : Pl.Dg) (c : Nat) : Nat := Pl.tn (d.m (kk d c)) 2
def uncC (d : Pl.Dg) (c : Nat) : Int := if d.m (kk d c) / 4 = c then (if d.m (kA d c) = kB d c then (if 64 < d.lp + 1 then 5 else 0) else 0) else 6
def unM (d : Pl.Dg) (c : Nat) : List Nat := if d.m (kA d c) = kB d c then d.mt else jn d.mt (d.m (kA d c)) (d.m (kB d c))
def unD (d : Pl.Dg) (c : Nat) : Pl.Dg := ⟨Pl.shrS [c] d.sg, Pl.shrM [c] d.n (unM d c), if d.m (kA d c) = kB d c then d.lp + 1 else d.lp⟩
theorem row_at {W : World} {t : TypeId} {vs : List Value} {g : Nat} (h : g = W.heap.size) : Row (W.alloc (.cells vs.toArray t)) g t vs := by subst h; exact Row.new W t vs
end Go.Proofs.YtcaoblilkgajoaaDoor
end
section
namespace Go.Proofs.YtcaoblilkgajoaaDoor.Pl
variable {N : Nat} {S : Nat → Prop} {f : Nat → Nat}
/-- p is the period of x. -/
def Per (f : Nat → Nat) (x p : Nat) : Prop := 0 < p ∧ it f p x = x ∧ ∀ i, 0 < i → i < p → it f i x ≠ x
theorem least_nat {P : Nat → Prop} : ∀ (n : Nat), P n → ∃ m, m ≤ n ∧ P m ∧ ∀ k, k < m → ¬ P k
 | 0, h => ⟨0, Nat.le_refl _, h, fun k hk => absurd hk (by omega)⟩
 | n + 1, h => by
   by_cases e : ∃ k, k < n + 1 ∧ P k
   ·obtain ⟨k, hk, hp⟩ := e
    obtain ⟨m, h1, h2, h3⟩ := least_nat k hp
    exact ⟨m, by omega, h2, h3⟩
   ·exact ⟨n + 1, Nat.le_refl _, h, fun k hk hp => e ⟨k, hk, hp⟩⟩
termination_by n => n
theorem Bij.per (h : Bij N S f) {x : Nat} (hx : S x) : ∃ p, p ≤ N ∧ Per f x p := by
 obtain ⟨q, h1, h2, h3⟩ := h.back hx
 obtain ⟨m, g1, ⟨g2, g3⟩, g4⟩ := least_nat (P := fun p => 0 < p ∧ Pl.it f p x = x) q ⟨h1, h3⟩
 exact ⟨m, by omega, g2, g3, fun i hi hm e => g4 i hm ⟨hi, e⟩⟩
/-- The cycle from x, as a list. -/
def cyc (f : Nat → Nat) (x p : Nat) : List Nat := (List.range p).map (fun i => it f i x)
theorem cyc_len (f : Nat → Nat) (x p : Nat) : (cyc f x p).length = p := by unfold cyc; simp
theorem cyc_succ (f : Nat → Nat) (x p : Nat) : cyc f x (p + 1) = cyc f x p ++ [it f p x] := by unfold cyc; rw [List.range_succ, List.map_append]; rfl
theorem cyc_get {f : Nat → Nat} {x p i : Nat} (hi : i < p) : (cyc f x p).getD i 0 = it f i x := by
 unfold cyc
 rw [List.getD_eq_getElem?_getD, List.getElem?_map, List.getElem?_range hi]; rfl
theorem mem_cyc {x p : Nat} (hp : Per f x p) {y : Nat} : y ∈ cyc f x p ↔ Orb f x y := by
 unfold cyc
 rw [List.mem_map]
 constructor
 ·rintro ⟨i, _, e⟩; exact ⟨i, e⟩
 ·rintro ⟨k, e⟩
  refine ⟨k % p, List.mem_range.2 (Nat.mod_lt _ hp.1), ?_⟩
  have h1 : k = k % p + k / p * p := by rw [Nat.mul_comm]; exact (Nat.mod_add_div k p).symm
  rw [h1, it_add, it_mul f p x hp.2.1] at e
  exact e
/-- The cycles that begin below k, in order; all wanted ones, each once. -/
structure Fcs (f : Nat → Nat) (W : Nat → Prop) (N k : Nat) (fs : List (List Nat)) (bs : List Bool) : Prop where
 len : bs.length = N
 is : ∀ l, l ∈ fs → ∃ h p, h < N ∧ W h ∧ Per f h p ∧ l = cyc f h p
 seen : ∀ h, h < N → (gb bs h = true ↔ ∃ l, l ∈ fs ∧ h ∈ l)
 all : ∀ h, h < k → W h → gb bs h = true
 one : ∀ (i j : Nat) (l m : List Nat) (h : Nat), fs[i]? = some l → fs[j]? = some m → h ∈ l → h ∈ m → i = j
theorem Fcs.start (f : Nat → Nat) (W : Nat → Prop) (N : Nat) : Fcs f W N 0 [] (List.replicate N false) := by
 refine ⟨by simp, fun l h => by simp at h, fun h hh => ?_, fun h hh => absurd hh (by omega), fun i j l m h e => by simp at e⟩
 constructor
 ·intro e; unfold gb at e; rw [List.getD_eq_getElem?_getD, List.getElem?_replicate, if_pos hh] at e; exact absurd e (by decide)
 ·rintro ⟨l, h, _⟩; simp at h
theorem Fcs.skip {W : Nat → Prop} {k : Nat} {fs : List (List Nat)} {bs : List Bool} (h : Fcs f W N k fs bs) (hs : gb bs k = true ∨ ¬ W k) : Fcs f W N (k + 1) fs bs :=
 ⟨h.len, h.is, h.seen, fun x hx hw => by
   by_cases e : x = k
   ·subst e
    rcases hs with hs | hs
    ·exact hs
    ·exact absurd hw hs
   ·exact h.all x (by omega) hw, h.one⟩
/-- A cycle's members marked, j of them. -/
def mark (bs : List Bool) : List Nat → List Bool
 | [] => bs
 | x :: l => mark (bs.set x true) l
theorem mark_append (bs : List Bool) : ∀ (l m : List Nat), mark bs (l ++ m) = mark (mark bs l) m := by
 intro l
 induction l generalizing bs with
 | nil => intro m; rfl
 | cons x l ih => intro m; exact ih (bs.set x true) m
theorem mark_len (bs : List Bool) (l : List Nat) : (mark bs l).length = bs.length := by
 induction l generalizing bs with
 | nil => rfl
 | cons x l ih => show (mark (bs.set x true) l).length = _; rw [ih, List.length_set]
theorem gb_mark {bs : List Bool} {l : List Nat} (hl : ∀ x, x ∈ l → x < bs.length) (h : Nat) : gb (mark bs l) h = true ↔ gb bs h = true ∨ h ∈ l := by
 induction l generalizing bs with
 | nil => simp [mark]
 | cons x l ih =>
   show gb (mark (bs.set x true) l) h = true ↔ _
   rw [ih (fun y hy => by rw [List.length_set]; exact hl y (List.mem_cons_of_mem _ hy)), gb_set (hl x List.mem_cons_self) true h, List.mem_cons]
   by_cases e : h = x
   ·simp [e]
   ·simp [e]
theorem Fcs.add {W : Nat → Prop} (hb : Bij N S f) (hS : ∀ x, x < N → S x) (hN : ∀ x, S x → x < N) {k p : Nat} {fs : List (List Nat)} {bs : List Bool} (h : Fcs f W N k fs bs) (hk : k < N) (hw : W k) (hn : gb bs k = false) (hp : Per f k p) :
 Fcs f W N (k + 1) (fs ++ [cyc f k p]) (mark bs (cyc f k p)) := by
 have hin : ∀ x, x ∈ cyc f k p → x < bs.length := fun x hx => by
  rw [h.len]; exact hN x (hb.orb_mem (hS k hk) ((mem_cyc hp).1 hx))
 have apart : ∀ l x, l ∈ fs → x ∈ l → ¬ x ∈ cyc f k p := fun l x hl hx hc => by
  obtain ⟨g, q, h1, h2, h3, rfl⟩ := h.is l hl
  have e1 := (mem_cyc h3).1 hx
  have e2 := (mem_cyc hp).1 hc
  have e3 : Orb f g k := e1.trans (hb.symm (hS k hk) e2)
  have := (h.seen k hk).2 ⟨_, hl, (mem_cyc h3).2 e3⟩
  rw [hn] at this
  exact absurd this (by decide)
 refine ⟨by rw [mark_len, h.len], fun l hl => ?_, fun x hx => ?_, fun x hx hwx => ?_, fun i j l m x e1 e2 h1 h2 => ?_⟩
 ·rcases List.mem_append.1 hl with hl | hl
  ·exact h.is l hl
  ·rw [List.mem_singleton] at hl
   exact ⟨k, p, hk, hw, hp, hl⟩
 ·rw [gb_mark hin, h.seen x hx]
  constructor
  ·rintro (⟨l, h1, h2⟩ | h2)
   ·exact ⟨l, List.mem_append_left _ h1, h2⟩
   ·exact ⟨_, List.mem_append_right _ (List.mem_singleton.2 rfl), h2⟩
  ·rintro ⟨l, h1, h2⟩
   rcases List.mem_append.1 h1 with h1 | h1
   ·exact .inl ⟨l, h1, h2⟩
   ·rw [List.mem_singleton] at h1; subst h1; exact .inr h2
 ·rw [gb_mark hin]
  by_cases e : x = k
  ·subst e; exact .inr ((mem_cyc hp).2 (Orb.refl f x))
  ·exact .inl (h.all x (by omega) hwx)
 ·rw [List.getElem?_append] at e1 e2
  by_cases c1 : i < fs.length
  ·rw [if_pos c1] at e1
   by_cases c2 : j < fs.length
   ·rw [if_pos c2] at e2
    exact h.one i j l m x e1 e2 h1 h2
   ·rw [if_neg c2] at e2
    have := List.mem_of_getElem? e2
    rw [List.mem_singleton] at this
    subst this
    exact absurd h2 (apart l x (List.mem_of_getElem? e1) h1)
  ·rw [if_neg c1] at e1
   have t1 := List.mem_of_getElem? e1
   rw [List.mem_singleton] at t1
   by_cases c2 : j < fs.length
   ·rw [if_pos c2] at e2
    subst t1
    exact absurd h1 (apart m x (List.mem_of_getElem? e2) h2)
   ·rw [if_neg c2] at e2
    have a1 := (List.getElem?_eq_some_iff.1 e1).1
    have a2 := (List.getElem?_eq_some_iff.1 e2).1
    simp only [List.length_singleton] at a1 a2
    omega
/-- Numbers of cycles: two numbers agree just where one cycle holds both. -/
theorem Fcs.label {W : Nat → Prop} (hb : Bij N S f) (hS : ∀ x, x < N → S x) {fs : List (List Nat)} {bs : List Bool} (h : Fcs f W N N fs bs) (hW : ∀ x, x < N → W x) {F : Nat → Nat} (hF : ∀ (i : Nat) (l : List Nat) (x : Nat), fs[i]? = some l → x ∈ l → F x = i) {x y : Nat} (hx : x < N) (hy : y < N) : F x = F y ↔ Orb f x y := by
 obtain ⟨l, h1, h2⟩ := (h.seen x hx).1 (h.all x hx (hW x hx))
 obtain ⟨m, g1, g2⟩ := (h.seen y hy).1 (h.all y hy (hW y hy))
 obtain ⟨i, hi⟩ := List.getElem?_of_mem h1
 obtain ⟨j, hj⟩ := List.getElem?_of_mem g1
 rw [hF i l x hi h2, hF j m y hj g2]
 obtain ⟨a, p, a1, a2, a3, rfl⟩ := h.is l h1
 have ox := (mem_cyc a3).1 h2
 constructor
 ·intro e
  subst e
  rw [hi] at hj
  injection hj with hj
  subst hj
  have oy := (mem_cyc a3).1 g2
  exact (hb.symm (hS a a1) ox).trans oy
 ·intro e
  exact h.one i j _ m y hi hj ((mem_cyc a3).2 (ox.trans e)) g2
end Go.Proofs.YtcaoblilkgajoaaDoor.Pl
end
section
namespace Go.Proofs.YtcaoblilkgajoaaDoor
open Go Go.RowKit
/-- A function value of the program that captured one variable. -/
def fv1 (k : Nat) (c : Value) : Value := .func (.func k) #[] #[c]
/-- A step of a permutation, by a function value, in every world that has grown out of w. -/
def Steps (k : Nat) (c : Value) (N : Nat) (f : Nat → Nat) (w : World) : Prop := ∀ w' h, Below w.heap.size w w' → h < N → Calls Tryd.prog k #[.int .i64 (h : Int), c] w' fun e w'' => e = .returned (.int .i64 (f h : Nat)) ∧ Below w'.heap.size w' w''
theorem Steps.keep {k : Nat} {c : Value} {N : Nat} {f : Nat → Nat} {w W : World} (h : Steps k c N f w) (hb : Below w.heap.size w W) : Steps k c N f W :=
 fun w' x hb' hx => h w' x (hb.trans (hb'.mono hb.size)) hx
theorem own_one (W : World) (x : Value) : (W.alloc (.cells #[x] 3)).ownsRow W.heap.size 3 1 (.slice (some ⟨W.heap.size, 0, none⟩) 1 1) 1 [x] :=
 ⟨rfl, .inr ⟨W.heap.size, 1, #[x], rfl, Nat.le_refl _, heap_alloc_new W _, Nat.le_refl _, by unfold maxLen; omega, rfl, rfl⟩⟩
theorem it_lt {f : Nat → Nat} {N : Nat} (hf : ∀ x, x < N → f x < N) {h : Nat} (hh : h < N) : ∀ k, Pl.it f k h < N
 | 0 => hh
 | k + 1 => hf _ (it_lt hf hh k)
def CycPost (f : Nat → Nat) (h p : Nat) (w : World) (e : Ending) (w' : World) : Prop :=
 ∃ (A : Option Addr) (c : Nat), e = .returned (.slice A p c) ∧ w'.ownsRow w.heap.size 3 1 (.slice A p c) p ((Pl.cyc f h p).map (fun k : Nat => Value.int .i64 k)) ∧ Below w.heap.size w w'
end Go.Proofs.YtcaoblilkgajoaaDoor
end
section
namespace Go.Proofs.YtcaoblilkgajoaaDoor.Pl
variable {d : Dg}
def lsum : List Int → Nat
 | [] => 0
 | z :: l => z.toNat + lsum l
theorem lsum_set : ∀ (ps : List Int) (i : Nat) (v : Int), i < ps.length → lsum (ps.set i v) + (pv ps i).toNat = lsum ps + v.toNat
 | [], i, v, h => by simp at h
 | z :: l, 0, v, h => by
   simp only [List.set_cons_zero, lsum, pv, List.getD_cons_zero]; omega
 | z :: l, i + 1, v, h => by
   have := lsum_set l i v (by simpa using h)
   simp only [List.set_cons_succ, lsum, pv, List.getD_cons_succ] at this ⊢; omega
/-- The numbers themselves, k of them laid. -/
def ids (n k : Nat) : List Int := (List.range n).map (fun c => if c < k then (c : Int) else 0)
theorem ids_len (n k : Nat) : (ids n k).length = n := by unfold ids; simp
theorem ids_pv {n k c : Nat} (hc : c < n) : pv (ids n k) c = if c < k then (c : Int) else 0 := by
 unfold pv ids
 rw [List.getD_eq_getElem?_getD, List.getElem?_map, List.getElem?_range hc]; rfl
/-- While labels go down: a label is a crossing of the component, not greater. -/
structure PI (d : Dg) (ps : List Int) : Prop where
 len : ps.length = d.n
 is : ∀ c, c < d.n → ∃ b : Nat, pv ps c = b ∧ b ≤ c ∧ Comp d c b
theorem PI.start (d : Dg) : PI d (ids d.n d.n) :=
 ⟨ids_len _ _, fun c hc => ⟨c, by rw [ids_pv hc, if_pos hc], Nat.le_refl _, .refl⟩⟩
theorem PI.nat {ps : List Int} (h : PI d ps) {c : Nat} (hc : c < d.n) : 0 ≤ pv ps c ∧ pv ps c ≤ c := by
 obtain ⟨b, h1, h2, _⟩ := h.is c hc
 omega
theorem comp_m (hd : Wf d) {h : Nat} (hh : h < 4 * d.n) : Comp d (h / 4) (d.m h / 4) :=
 (con_comp hd hh (hd.lt h hh)).1 (Con.refl.right)
theorem PI.step (hd : Wf d) {ps : List Int} (h : PI d ps) {x : Nat} (hx : x < 4 * d.n) (hlt : pv ps (d.m x / 4) < pv ps (x / 4)) : PI d (ps.set (x / 4) (pv ps (d.m x / 4))) ∧ lsum (ps.set (x / 4) (pv ps (d.m x / 4))) < lsum ps := by
 have hm := hd.lt x hx
 have hl : x / 4 < ps.length := by rw [h.len]; omega
 have h1 := h.nat (c := x / 4) (by omega)
 have h2 := h.nat (c := d.m x / 4) (by omega)
 refine ⟨⟨by rw [List.length_set, h.len], fun c hc => ?_⟩, by have := lsum_set ps (x / 4) (pv ps (d.m x / 4)) hl; omega⟩
 rw [pv_set hl]
 by_cases e : c = x / 4
 ·rw [if_pos e]
  obtain ⟨b, e1, e2, e3⟩ := h.is (d.m x / 4) (by omega)
  refine ⟨b, e1, by omega, ?_⟩
  rw [e]
  exact (comp_m hd hx).trans e3
 ·rw [if_neg e]; exact h.is c hc
/-- Labels that no edge lowers: each is the least crossing of the component. -/
structure PB (d : Dg) (ps : List Int) : Prop where
 len : ps.length = d.n
 is : ∀ c, c < d.n → ∃ b : Nat, pv ps c = b ∧ b ≤ c ∧ Comp d c b
 same : ∀ a b, a < d.n → Comp d a b → pv ps a = pv ps b
theorem PI.done (hd : Wf d) {ps : List Int} (h : PI d ps) (hs : ∀ x, x < 4 * d.n → pv ps (x / 4) ≤ pv ps (d.m x / 4)) : PB d ps := by
 refine ⟨h.len, h.is, fun a b ha e => ?_⟩
 have := con_sub hd.hm (R := fun x y => pv ps (x / 4) = pv ps (y / 4)) ⟨fun _ _ => rfl, fun _ _ _ _ e => e.symm, fun _ _ _ _ _ _ e e' => e.trans e'⟩
  (fun x _ => by show pv ps (x / 4) = pv ps (rot x / 4); unfold rot; rw [tn_div]) (fun x hx => ?_) (x := 4 * a) (y := 4 * b) (by unfold dart; omega) e
 ·simpa [Nat.mul_div_cancel_left] using this
 ·have h1 := hs x hx
  have h2 := hs (d.m x) (hd.lt x hx)
  rw [hd.inv x hx] at h2
  exact Int.le_antisymm h1 h2
theorem PB.iff (hd : Wf d) {ps : List Int} (h : PB d ps) {a b : Nat} (ha : a < d.n) (hb : b < d.n) : pv ps a = pv ps b ↔ Comp d a b := by
 refine ⟨fun e => ?_, h.same a b ha⟩
 obtain ⟨x, e1, e2, e3⟩ := h.is a ha
 obtain ⟨y, g1, g2, g3⟩ := h.is b hb
 have : x = y := by omega
 subst this
 exact e3.trans (comp_symm hd hb g3)
theorem PB.nat {ps : List Int} (h : PB d ps) {c : Nat} (hc : c < d.n) : 0 ≤ pv ps c ∧ pv ps c ≤ c := by
 obtain ⟨b, h1, h2, _⟩ := h.is c hc
 omega
theorem PB.root {ps : List Int} (h : PB d ps) {c : Nat} (hc : c < d.n) : ∃ b : Nat, pv ps c = b ∧ b < d.n ∧ pv ps b = b ∧ Comp d c b := by
 obtain ⟨b, h1, h2, h3⟩ := h.is c hc
 exact ⟨b, h1, by omega, by rw [← h.same c b hc h3, h1], h3⟩
/-- The rule, at the least crossings alone. -/
theorem PB.rule (hd : Wf d) {ps : List Int} (h : PB d ps) : (∀ c, c < d.n → pv ps c = c → nf d ps c (4 * d.n) = nv ps c d.n + 2) ↔ Rule d := by
 have key : ∀ c p : Nat, c < d.n → pv ps c = p → nf d ps p (4 * d.n) = cnt (fun h => Least (nx d) h ∧ Comp d c (h / 4)) (4 * d.n) ∧ nv ps p d.n = cnt (fun b => Comp d c b) d.n := by
  intro c p hc e
  have one : ∀ b, b < d.n → (pv ps b = p ↔ Comp d c b) := fun b hb' => by
   rw [← h.iff hd hc hb', e]
   exact ⟨fun e => e.symm, fun e => e.symm⟩
  refine ⟨cnt_congr _ (fun x hx => ?_), cnt_congr _ (fun x hx => one x hx)⟩
  rw [one (x / 4) (by omega)]
 constructor
 ·intro h2 c hc
  obtain ⟨b, e1, e2, e3, e4⟩ := h.root hc
  obtain ⟨k1, k2⟩ := key c b hc e1
  have := h2 b e2 e3
  omega
 ·intro h2 c hc e
  obtain ⟨k1, k2⟩ := key c c hc e
  rw [k1, k2]
  exact h2 c hc
/-- Counters: faces by label. -/
def Fx (d : Dg) (ps es : List Int) (m : Nat) : Prop := es.length = d.n ∧ ∀ p, p < d.n → pv es p = (nf d ps p m : Int)
def Cx (d : Dg) (ps es : List Int) (k : Nat) : Prop := es.length = d.n ∧ ∀ p, p < d.n → pv es p = (nv ps p k : Int)
theorem rep_pv {n p : Nat} (hp : p < n) : pv (List.replicate n 0) p = 0 := by
 unfold pv; rw [List.getD_eq_getElem?_getD, List.getElem?_replicate, if_pos hp]; rfl
theorem Fx.start (d : Dg) (ps : List Int) : Fx d ps (List.replicate d.n 0) 0 := ⟨by simp, fun p hp => by rw [rep_pv hp]; simp [nf, cnt]⟩
theorem Cx.start (d : Dg) (ps : List Int) : Cx d ps (List.replicate d.n 0) 0 := ⟨by simp, fun p hp => by rw [rep_pv hp]; simp [nv, cnt]⟩
theorem Fx.more {ps es : List Int} {m : Nat} (h : Fx d ps es m) {q : Nat} (hq : q < d.n) (e : pv ps (m / 4) = q) (hl : Least (nx d) m) : Fx d ps (es.set q (pv es q + 1)) (m + 1) := by
 refine ⟨by rw [List.length_set, h.1], fun p hp => ?_⟩
 rw [pv_set (by rw [h.1]; exact hq)]
 have hp0 := h.2 p hp
 by_cases e2 : p = q
 ·subst e2
  rw [if_pos rfl, hp0]
  unfold nf
  rw [cnt_step_pos ⟨hl, e⟩]; omega
 ·rw [if_neg e2, hp0]
  unfold nf
  rw [cnt_step_neg (fun e3 => e2 (by have := e3.2; rw [e] at this; omega))]
theorem Fx.same {ps es : List Int} {m : Nat} (h : Fx d ps es m) (hl : ¬ Least (nx d) m) : Fx d ps es (m + 1) := by
 refine ⟨h.1, fun p hp => ?_⟩
 rw [h.2 p hp]
 unfold nf
 rw [cnt_step_neg (fun e3 => hl e3.1)]
theorem Cx.more {ps es : List Int} {k : Nat} (h : Cx d ps es k) {q : Nat} (hq : q < d.n) (e : pv ps k = q) : Cx d ps (es.set q (pv es q + 1)) (k + 1) := by
 refine ⟨by rw [List.length_set, h.1], fun p hp => ?_⟩
 rw [pv_set (by rw [h.1]; exact hq)]
 have hp0 := h.2 p hp
 by_cases e2 : p = q
 ·subst e2
  rw [if_pos rfl, hp0]
  unfold nv
  rw [cnt_step_pos e]; omega
 ·rw [if_neg e2, hp0]
  unfold nv
  rw [cnt_step_neg (fun e3 => e2 (by rw [e] at e3; omega))]
/-- A face marked from its list: as many steps as its period. -/
theorem SI.all (hd : Wf d) {k p : Nat} {bs : List Bool} (h : SI d k p bs) (hp : Per (nx d) k p) : SQ d (k + 1) bs := by
 refine h.done hd ?_
 have e := hp.2.1
 have hl := h.lt hd
 refine (h.iff _ hl).2 (.inr ⟨0, hp.1, ?_⟩)
 rw [e]; rfl
end Go.Proofs.YtcaoblilkgajoaaDoor.Pl
end
section
namespace Go.Proofs.YtcaoblilkgajoaaDoor
open Go Go.RowKit
theorem Row.drewN {w : World} {g : Nat} {t : TypeId} {vs : List Value} (h : Row w g t vs) (n : Nat) : Row (w.drewN n) g t vs := h
theorem Below.drewN' {k : Nat} {w w' : World} (h : Below k w w') (n : Nat) : Below k w (w'.drewN n) := ⟨h.os, h.tape, h.output, h.size, h.block⟩
end Go.Proofs.YtcaoblilkgajoaaDoor
end
section
namespace Go.Proofs.YtcaoblilkgajoaaDoor
open Go Go.RowKit
/-- What lies in memory while faces are counted. -/
structure VS (w : World) (vs : List Value) (gp gf gc gs : Nat) (ps fs cs : List Int) (bs : List Bool) (W : World) : Prop where
 x : Row W w.heap.size 28 vs
 p : IRow W gp ps
 f : IRow W gf fs
 c : IRow W gc cs
 s : BRow W gs bs
 bel : Below w.heap.size w W
 lo : w.heap.size < gp ∧ w.heap.size < gf ∧ w.heap.size < gc ∧ w.heap.size < gs
 ne : gp ≠ gf ∧ gp ≠ gc ∧ gp ≠ gs ∧ gf ≠ gc ∧ gf ≠ gs ∧ gc ≠ gs
section
variable {w : World} {vs : List Value} {gp gf gc gs : Nat} {ps fs cs : List Int} {bs : List Bool} {W W' : World}
theorem VS.below (h : VS w vs gp gf gc gs ps fs cs bs W) (hb : Below W.heap.size W W') : VS w vs gp gf gc gs ps fs cs bs W' :=
 ⟨h.x.below hb, Row.below h.p hb, Row.below h.f hb, Row.below h.c hb, Row.below h.s hb, h.bel.trans (hb.mono h.bel.size), h.lo, h.ne⟩
theorem VS.drewN (h : VS w vs gp gf gc gs ps fs cs bs W) (n : Nat) : VS w vs gp gf gc gs ps fs cs bs (W.drewN n) := ⟨h.x, h.p, h.f, h.c, h.s, Below.drewN' h.bel n, h.lo, h.ne⟩
theorem VS.setF (h : VS w vs gp gf gc gs ps fs cs bs W) (i : Nat) (v : Int) : VS w vs gp gf gc gs ps (fs.set i v) cs bs (W.setCell ⟨gf, i, none⟩ (.int .i64 v)) := by
 have a := h.lo
 have b := h.ne
 exact ⟨h.x.other (by show _ ≠ gf; omega) _, Row.other h.p (by show _ ≠ gf; omega) _, h.f.set i v, Row.other h.c (by show _ ≠ gf; omega) _, Row.other h.s (by show _ ≠ gf; omega) _, h.bel.setCell (by show _ ≤ gf; omega) _, h.lo, h.ne⟩
theorem VS.setS (h : VS w vs gp gf gc gs ps fs cs bs W) (i : Nat) (v : Bool) : VS w vs gp gf gc gs ps fs cs (bs.set i v) (W.setCell ⟨gs, i, none⟩ (.bool v)) := by
 have a := h.lo
 have b := h.ne
 exact ⟨h.x.other (by show _ ≠ gs; omega) _, Row.other h.p (by show _ ≠ gs; omega) _, Row.other h.f (by show _ ≠ gs; omega) _, Row.other h.c (by show _ ≠ gs; omega) _, h.s.set i v, h.bel.setCell (by show _ ≤ gs; omega) _, h.lo, h.ne⟩
end
end Go.Proofs.YtcaoblilkgajoaaDoor
end
section
namespace Go.Proofs.YtcaoblilkgajoaaDoor
open Go Go.RowKit
/-- The half-edge number i at the crossings x, y, and the other crossing. -/
def lnH (x y i : Nat) : Nat := if i < 4 then 4 * x + i else 4 * y + i - 4
def lnO (x y i : Nat) : Nat := if i < 4 then y else x
def isL (d : Pl.Dg) (x y i : Nat) : Prop := Pl.nx d (lnH x y i) / 4 = lnO x y i ∧ Pl.nx d (Pl.nx d (lnH x y i)) = lnH x y i ∧ lnH x y i % 2 = d.m (lnH x y i) % 2
instance (d : Pl.Dg) (x y i : Nat) : Decidable (isL d x y i) := by unfold isL; infer_instance
def lensI (d : Pl.Dg) (x y : Nat) : Option Nat := (List.range 8).find? (fun i => decide (isL d x y i))
theorem box8 {W : World} {g : Nat} {t : TypeId} {a b c d e f p q : Value} (h : Row W g t [a, b, c, d, e, f, p, q]) : W.cell? ⟨g, 0, none⟩ = some a ∧ W.cell? ⟨g, 1, none⟩ = some b ∧ W.cell? ⟨g, 2, none⟩ = some c ∧ W.cell? ⟨g, 3, none⟩ = some d ∧ W.cell? ⟨g, 4, none⟩ = some e ∧ W.cell? ⟨g, 5, none⟩ = some f ∧ W.cell? ⟨g, 6, none⟩ = some p ∧ W.cell? ⟨g, 7, none⟩ = some q ∧ ∀ o, W.frozen? ⟨g, o, none⟩ = false :=
 ⟨h.cell (i := 0) (by simp), h.cell (i := 1) (by simp), h.cell (i := 2) (by simp), h.cell (i := 3) (by simp), h.cell (i := 4) (by simp), h.cell (i := 5) (by simp), h.cell (i := 6) (by simp), h.cell (i := 7) (by simp), h.free⟩
end Go.Proofs.YtcaoblilkgajoaaDoor
end
section
namespace Go.Proofs.YtcaoblilkgajoaaDoor
open Go Go.RowKit
attribute [local go_sem ↓] Go.wp_at_zero Go.wp_at_succ
/-- An edge of a triangle: its outgoing and its incoming end. -/
def eo (d : Pl.Dg) (o : Nat) : Nat := if Pl.out d o = true then o else d.m o
def ei (d : Pl.Dg) (o : Nat) : Nat := d.m (eo d o)
def zz : List Value := [.int .i64 0, .int .i64 0, .int .i64 0, .int .i64 0]
def isO (d : Pl.Dg) (o : Nat) : Bool := eo d o % 2 == 1 && ei d o % 2 == 1
def isU (d : Pl.Dg) (o : Nat) : Bool := eo d o % 2 == 0 && ei d o % 2 == 0
/-- The three half-edges of the face to the left of h. -/
def th (d : Pl.Dg) (h k : Nat) : Nat := if k = 0 then h else if k = 1 then Pl.nx d h else Pl.nx d (Pl.nx d h)
def is3 (d : Pl.Dg) (h : Nat) : Prop := Pl.nx d (th d h 2) = h ∧ h / 4 ≠ th d h 1 / 4 ∧ th d h 1 / 4 ≠ th d h 2 / 4 ∧ h / 4 ≠ th d h 2 / 4
def cntO (d : Pl.Dg) (h k : Nat) : Nat := ((List.range k).filter (fun i => isO d (th d h i))).length
def cntU (d : Pl.Dg) (h k : Nat) : Nat := ((List.range k).filter (fun i => isU d (th d h i))).length
/-- A strand can slide. -/
def isT (d : Pl.Dg) (h : Nat) : Prop := is3 d h ∧ cntO d h 3 = 1 ∧ cntU d h 3 = 1
section
variable {w W W' : World} {dv ev : List Value}
end
end Go.Proofs.YtcaoblilkgajoaaDoor
end
section
namespace Go.Proofs.YtcaoblilkgajoaaDoor
open Go Go.RowKit
theorem RowT.store {w : World} {t t' : TypeId} {A : Option Addr} {n : Nat} {xs : List Value} {g i : Nat} {vs : List Value} (h : RowT w t A n xs) (hr : Row w g t' vs) (hne : t ≠ t') (v : Value) : RowT (w.setCell ⟨g, i, none⟩ v) t A n xs :=
 ⟨h.1, fun hn => let ⟨b, o, cs, fr, e, hb, hc⟩ := h.2 hn; ⟨b, o, cs, fr, e, (Below.heap_setCell w _ v b (fun he => by
   have hr' := hr
   unfold Row at hr'
   have he' : b = g := he
   rw [he', hr'] at hb
   injection hb with hb
   injection hb with _ h4
   exact hne h4.symm)).trans hb, hc⟩⟩
theorem own_rowT {w : World} {base : Nat} {t : TypeId} {A : Option Addr} {n c : Nat} {xs : List Value} (h : w.ownsRow base t 1 (.slice A n c) n xs) : RowT w t A n xs := by
 refine ⟨by simpa using h.1, fun hn => ?_⟩
 rcases h.2 with ⟨_, h2⟩ | ⟨g, cap, cur, h1, _, h3, _, _, _, h5⟩
 ·omega
 ·injection h1 with h1 _ _
  refine ⟨g, 0, cur, (0, 0), h1, h3, fun j u hu => ?_⟩
  rw [Nat.zero_add]
  have hj : j < n := by
   have := (List.getElem?_eq_some_iff.1 hu).1
   have := h.1
   omega
  rw [← h5, List.getElem?_take, if_pos (by omega)] at hu
  rw [← hu]
  simp
/-- A slice of numbers, its row's type known. -/
def FaceAt (w : World) (v : Value) (l : List Nat) : Prop := ∃ A c, v = .slice A l.length c ∧ RowT w 3 A l.length (l.map (fun k : Nat => Value.int .i64 k))
def Vs (w : World) (vs : List Value) (fs : List (List Nat)) : Prop := vs.length = fs.length ∧ ∀ (i : Nat) l, fs[i]? = some l → ∃ v, vs[i]? = some v ∧ FaceAt w v l
theorem Vs.below {w w' : World} {vs : List Value} {fs : List (List Nat)} (h : Vs w vs fs) (hb : Below w.heap.size w w') : Vs w' vs fs :=
 ⟨h.1, fun i l e => let ⟨v, h1, A, c, h2, h3⟩ := h.2 i l e; ⟨v, h1, A, c, h2, h3.keep hb⟩⟩
theorem Vs.grown {w w' : World} {vs : List Value} {fs : List (List Nat)} {row : Option Nat} {t' : TypeId} (h : Vs w vs fs) (hg : w.grownBy w' row) (hr : ∀ g, row = some g → ∃ cs fr, w.heap[g]? = some (.cells cs t' fr)) (hne : 3 ≠ t') : Vs w' vs fs :=
 ⟨h.1, fun i l e => let ⟨v, h1, A, c, h2, h3⟩ := h.2 i l e; ⟨v, h1, A, c, h2, h3.grown hg hr hne⟩⟩
theorem Vs.store {w : World} {vs : List Value} {fs : List (List Nat)} {g i : Nat} {us : List Value} {t' : TypeId} (h : Vs w vs fs) (hr : Row w g t' us) (hne : 3 ≠ t') (v : Value) : Vs (w.setCell ⟨g, i, none⟩ v) vs fs :=
 ⟨h.1, fun i l e => let ⟨v, h1, A, c, h2, h3⟩ := h.2 i l e; ⟨v, h1, A, c, h2, h3.store hr hne _⟩⟩
theorem Vs.add {w : World} {vs : List Value} {fs : List (List Nat)} {v : Value} {l : List Nat} (h : Vs w vs fs) (hv : FaceAt w v l) : Vs w (vs ++ [v]) (fs ++ [l]) := by
 refine ⟨by simp [h.1], fun i m e => ?_⟩
 rw [List.getElem?_append] at e ⊢
 by_cases hi : i < fs.length
 ·rw [if_pos hi] at e
  rw [if_pos (by rw [h.1]; exact hi)]
  exact h.2 i m e
 ·rw [if_neg hi] at e
  rw [if_neg (by rw [h.1]; exact hi), h.1]
  have h1 := (List.getElem?_eq_some_iff.1 e).1
  simp only [List.length_singleton] at h1
  have h0 : i - fs.length = 0 := by omega
  rw [h0] at e ⊢
  simp only [List.getElem?_cons_zero, Option.some.injEq] at e
  subst e
  exact ⟨v, rfl, hv⟩
theorem Vs.nil (w : World) : Vs w [] [] := ⟨rfl, fun i l e => by simp at e⟩
theorem FaceAt.below {w w' : World} {v : Value} {l : List Nat} (h : FaceAt w v l) (hb : Below w.heap.size w w') : FaceAt w' v l := let ⟨A, c, h2, h3⟩ := h; ⟨A, c, h2, h3.keep hb⟩
theorem FaceAt.store {w : World} {v : Value} {l : List Nat} {g i : Nat} {us : List Value} {t' : TypeId} (h : FaceAt w v l) (hr : Row w g t' us) (hne : 3 ≠ t') (u : Value) : FaceAt (w.setCell ⟨g, i, none⟩ u) v l := let ⟨A, c, h2, h3⟩ := h; ⟨A, c, h2, h3.store hr hne _⟩
theorem FaceAt.grown {w w' : World} {v : Value} {l : List Nat} {row : Option Nat} {t' : TypeId} (h : FaceAt w v l) (hg : w.grownBy w' row) (hr : ∀ g, row = some g → ∃ cs fr, w.heap[g]? = some (.cells cs t' fr)) (hne : 3 ≠ t') : FaceAt w' v l := let ⟨A, c, h2, h3⟩ := h; ⟨A, c, h2, h3.grown hg hr hne⟩
theorem FaceAt.ints {w : World} {A : Option Addr} {n c : Nat} {l : List Nat} (h : FaceAt w (.slice A n c) l) : n = l.length ∧ IntsAt w A n (nats l) := by
 obtain ⟨A', c', h1, h2⟩ := h
 injection h1 with h1 h3 h4
 subst h1 h3
 refine ⟨rfl, ?_⟩
 unfold IntsAt
 rw [map_nats]
 exact h2.row
/-- Slices that lie from a block on. -/
def Far (base : Nat) (vs : List Value) : Prop := ∀ v, v ∈ vs → ∀ g, v.ownBlock = some g → base ≤ g
theorem FaceAt.far {w : World} {v : Value} {l : List Nat} {base g i : Nat} (h : FaceAt w v l) (hf : ∀ b, v.ownBlock = some b → base ≤ b) (hg : g < base) (u : Value) : FaceAt (w.setCell ⟨g, i, none⟩ u) v l := by
 obtain ⟨A, c, rfl, h1, h2⟩ := h
 refine ⟨A, c, rfl, h1, fun hn => ?_⟩
 obtain ⟨b, o, cs, fr, rfl, hb, hc⟩ := h2 hn
 have := hf b rfl
 exact ⟨b, o, cs, fr, rfl, (Below.heap_setCell w _ u b (by show b ≠ g; omega)).trans hb, hc⟩
theorem Vs.far {w : World} {vs : List Value} {fs : List (List Nat)} {base g i : Nat} (h : Vs w vs fs) (hf : Far base vs) (hg : g < base) (u : Value) : Vs (w.setCell ⟨g, i, none⟩ u) vs fs :=
 ⟨h.1, fun i l e => let ⟨v, h1, h2⟩ := h.2 i l e; ⟨v, h1, h2.far (hf v (List.mem_of_getElem? h1)) hg u⟩⟩
theorem Far.add {base : Nat} {vs : List Value} {v : Value} (h : Far base vs) (hv : ∀ g, v.ownBlock = some g → base ≤ g) : Far base (vs ++ [v]) := fun u hu => by
 rcases List.mem_append.1 hu with hu | hu
 ·exact h u hu
 ·rw [List.mem_singleton] at hu; subst hu; exact hv
theorem rowInfo : (Tryd.prog.info? 22).map (fun i => (i.zero, i.size, i.bytes)) = some (some (.slice none 0 0), 1, 24) := by kernel_rfl
end Go.Proofs.YtcaoblilkgajoaaDoor
end
section
namespace Go.Proofs.YtcaoblilkgajoaaDoor
open Go Go.RowKit
structure Cys (w : World) (N : Nat) (f : Nat → Nat) (k : Nat) (fs : List (List Nat)) (bs : List Bool) (vs : List Value) (vA : Value) (W : World) : Prop where
 fc : Pl.Fcs f (fun _ => True) N k fs bs
 few : fs.length ≤ k
 seen : BRow W w.heap.size bs
 own : W.ownsRow (w.heap.size + 1) 22 1 vA fs.length vs
 fa : Vs W vs fs
 bel : Below w.heap.size w W
 far : Far w.heap.size vs
theorem Cys.below {w : World} {N : Nat} {f : Nat → Nat} {k : Nat} {fs : List (List Nat)} {bs : List Bool} {vs : List Value} {vA : Value} {W W' : World} (h : Cys w N f k fs bs vs vA W) (hb : Below W.heap.size W W') : Cys w N f k fs bs vs vA W' :=
 ⟨h.fc, h.few, Row.below h.seen hb, own_keep h.own hb (Nat.le_refl _), h.fa.below hb, h.bel.trans (hb.mono h.bel.size), h.far⟩
def CyclesPost (f : Nat → Nat) (N : Nat) (w : World) (e : Ending) (w' : World) : Prop :=
 ∃ (A : Option Addr) (c : Nat) (fs : List (List Nat)) (bs : List Bool) (vs : List Value), e = .returned (.slice A fs.length c) ∧ Pl.Fcs f (fun _ => True) N N fs bs ∧ fs.length ≤ N ∧ RowT w' 22 A fs.length vs ∧ Vs w' vs fs ∧ Below w.heap.size w w' ∧ Far w.heap.size vs
end Go.Proofs.YtcaoblilkgajoaaDoor
end
section
namespace Go.Proofs.YtcaoblilkgajoaaDoor
open Go Go.RowKit
theorem mk_self (d : Pl.Dg) : Pl.mk d.sg (nats d.mt) d.lp = d := by
 unfold Pl.mk nats
 rw [List.map_map]
 have : (Int.toNat ∘ fun m : Nat => (m : Int)) = id := by funext x; rfl
 rw [this, List.map_id]
 rfl
theorem vl_of {d : Pl.Dg} : Pl.VL d.sg (nats d.mt) d.lp ↔ Pl.Valid d := by
 constructor
 ·intro h; have := h.1; rwa [mk_self] at this
 ·intro h; exact ⟨by rw [mk_self]; exact h, fun z hz => by unfold nats at hz; obtain ⟨m, _, rfl⟩ := List.mem_map.1 hz; omega, by omega⟩
theorem valid_yes (d : Pl.Dg) (hd : Pl.Valid d) (A B : Option Addr) (cp cq m : Nat) (w : World) (hm : m = 4 * d.n) (hg : DgAt w A B d) :
 Calls Tryd.prog 30 #[.agg #[.slice A d.n cp, .slice B m cq, .int .i64 d.lp]] w fun e w' => e = .returned (.bool true) ∧ Below w.heap.size w w' := by
 have hn := hd.wf.few
 have hl := hd.wf.lp
 refine (valid_any d.sg (nats d.mt) d.lp A B d.n m cp cq w hg.s (by rw [hm]; exact hg.m) (by unfold maxLen; omega) (by unfold maxLen; omega) (by omega)).mono ?_
 rintro e w' ⟨h1, h2⟩
 rw [Pl.vb_true (vl_of.2 hd)] at h1
 exact ⟨h1, h2⟩
def FacesPost (d : Pl.Dg) (w : World) (e : Ending) (w' : World) : Prop := CyclesPost (Pl.nx d) (4 * d.n) w e w'
end Go.Proofs.YtcaoblilkgajoaaDoor
end
section
namespace Go.Proofs.YtcaoblilkgajoaaDoor
open Go Go.RowKit
/-- The half-edge at a side. -/
def plc (c f s : Nat) : Nat := 4 * c + (s + 4 - f) % 4
/-- Is what is named travelled along its strand? -/
def fwd (d : Pl.Dg) (x : Int) : Bool := if x = -1 then true else if 0 ≤ x then Pl.out d x.toNat else false
end Go.Proofs.YtcaoblilkgajoaaDoor
end
section
namespace Go.Proofs.YtcaoblilkgajoaaDoor
open Go Go.RowKit
/-- A diagram with the numbers of its faces and of its parts, as a value. -/
def sheetV (A B L R : Option Addr) (n m : Nat) (lp : Int) (cp cq cl cr : Nat) : Value := .agg #[.slice A n cp, .slice B m cq, .int .i64 lp, .slice L m cl, .slice R n cr]
def nearB (F R : List Nat) (d : Pl.Dg) (x y : Nat) : Bool := (F.getD x 0 == F.getD y 0 || R.getD (x / 4) 0 != R.getD (y / 4) 0) && d.m x != y
structure ShAt (w : World) (A B L R : Option Addr) (d : Pl.Dg) (F P : List Nat) : Prop where
 dg : DgAt w A B d
 l : IntsAt w L (4 * d.n) (nats F)
 p : IntsAt w R d.n (nats P)
theorem ShAt.keep {w w' : World} {A B L R : Option Addr} {d : Pl.Dg} {F P : List Nat} (h : ShAt w A B L R d F P) (hb : Below w.heap.size w w') : ShAt w' A B L R d F P := ⟨h.dg.keep hb, h.l.keep hb, h.p.keep hb⟩
end Go.Proofs.YtcaoblilkgajoaaDoor
end
section
namespace Go.Proofs.YtcaoblilkgajoaaDoor
open Go Go.RowKit
attribute [local go_sem ↓] Go.wp_at_zero Go.wp_at_succ
theorem below8 {w W : World} (h : Below w.heap.size w W) (y0 y1 y2 z0 z1 z2 z3 z4 : Value) :
 Below w.heap.size w ((((((((W.setCell ⟨w.heap.size + 1 + 1, 0, none⟩ y0).setCell ⟨w.heap.size + 1 + 1, 1, none⟩ y1).setCell ⟨w.heap.size + 1 + 1, 2, none⟩ y2).setCell ⟨w.heap.size + 1 + 1 + 1, 0, none⟩ z0).setCell ⟨w.heap.size + 1 + 1 + 1, 1, none⟩ z1).setCell ⟨w.heap.size + 1 + 1 + 1, 2, none⟩ z2).setCell ⟨w.heap.size + 1 + 1 + 1, 3, none⟩ z3).setCell ⟨w.heap.size + 1 + 1 + 1, 4, none⟩ z4) :=
 (((((((h.setCell (by show _ ≤ w.heap.size + 1 + 1; omega) _).setCell (by show _ ≤ w.heap.size + 1 + 1; omega) _).setCell (by show _ ≤ w.heap.size + 1 + 1; omega) _).setCell (by show _ ≤ w.heap.size + 1 + 1 + 1; omega) _).setCell (by show _ ≤ w.heap.size + 1 + 1 + 1; omega) _).setCell (by show _ ≤ w.heap.size + 1 + 1 + 1; omega) _).setCell (by show _ ≤ w.heap.size + 1 + 1 + 1; omega) _).setCell (by show _ ≤ w.heap.size + 1 + 1 + 1; omega) _
theorem OwnN.alloc {w : World} {base g n c : Nat} {l : List Nat} (h : OwnN w base g n c l) (o : Obj) : OwnN (w.alloc o) base g n c l := World.ownsRow.alloc h o
end Go.Proofs.YtcaoblilkgajoaaDoor
end
section
namespace Go.Proofs.YtcaoblilkgajoaaDoor
open Go Go.RowKit
attribute [local go_sem ↓] Go.wp_at_zero Go.wp_at_succ
def lnS (d : Pl.Dg) (y : Int) : Nat := if fwd d y then 0 else 2
def th0 (d : Pl.Dg) (x : Int) : Nat := if fwd d x then 3 else 1
def th1 (d : Pl.Dg) (x : Int) : Nat := if fwd d x then 1 else 3
def un0 (d : Pl.Dg) (x y : Int) (ov : Bool) : Nat := if ov then lnS d y else th0 d x
def un1 (d : Pl.Dg) (x y : Int) (ov : Bool) : Nat := if ov then lnS d y else th1 d x
def ov0 (d : Pl.Dg) (x y : Int) (ov : Bool) : Nat := if ov then th0 d x else lnS d y
def ov1 (d : Pl.Dg) (x y : Int) (ov : Bool) : Nat := if ov then th1 d x else lnS d y
def sgn2 (u o : Nat) : Int := if plc 0 u o = 3 then 1 else -1
theorem box2 {W : World} {g : Nat} {t : TypeId} {a b : Value} (h : Row W g t [a, b]) : W.cell? ⟨g, 0, none⟩ = some a ∧ W.cell? ⟨g, 1, none⟩ = some b ∧ ∀ o, W.frozen? ⟨g, o, none⟩ = false :=
 ⟨h.cell (i := 0) (by simp), h.cell (i := 1) (by simp), h.free⟩
section
variable {w : World} {x0 x1 x2 y0 y1 y2 y3 y4 : Value} {W W' : World}
end
theorem Row_drewN {w : World} {g : Nat} {t : TypeId} {vs : List Value} (h : Row w g t vs) (n : Nat) : Row (w.drewN n) g t vs := h
section
variable {w : World} {x0 x1 x2 y0 y1 y2 y3 y4 : Value} {gu gs : Nat} {p0 p1 q0 q1 : Value} {W W' : World}
end
theorem own_base {w : World} {base base' : Nat} {e : TypeId} {v : Value} {n : Nat} {xs : List Value} (h : w.ownsRow base e 1 v n xs) (hle : base' ≤ base) : w.ownsRow base' e 1 v n xs := own_keep h (Below.refl _ _) hle
theorem two_ints (W : World) (a b : Int) : IntsAt (W.alloc (.cells #[.int .i64 a, .int .i64 b] 3)).drew (some ⟨W.heap.size, 0, none⟩) 2 [a, b] := by
 refine IntsAt.drew ⟨rfl, fun _ => ⟨_, 0, rfl, fun j u hu => ?_⟩⟩
 have h := heap_alloc_new W (.cells #[.int .i64 a, .int .i64 b] 3)
 match j, hu with
 | 0, hu => simp at hu; subst hu; exact (Lib.cell_of_heap h 0).trans rfl
 | 1, hu => simp at hu; subst hu; exact (Lib.cell_of_heap h 1).trans rfl
def RaisedPost (d : Pl.Dg) (x y : Int) (ov : Bool) (w : World) (e : Ending) (w' : World) : Prop :=
 ∃ g1 c1 g2 c2 : Nat, e = .returned (.tuple #[.agg #[.slice (some ⟨g1, 0, none⟩) (d.n + 2) c1, .slice (some ⟨g2, 0, none⟩) (4 * d.n + 8) c2, .int .i64 (d.lp : Int)], .agg #[.int .i64 (un0 d x y ov : Nat), .int .i64 (un1 d x y ov : Nat)]]) ∧
   w'.ownsRow w.heap.size 3 1 (.slice (some ⟨g1, 0, none⟩) (d.n + 2) c1) (d.n + 2) ((d.sg ++ [sgn2 (un0 d x y ov) (ov0 d x y ov), sgn2 (un1 d x y ov) (ov1 d x y ov)]).map (.int .i64)) ∧ OwnN w' w.heap.size g2 (4 * d.n + 8) c2 (d.mt ++ List.replicate 8 0) ∧ g1 ≠ g2 ∧ Below w.heap.size w w'
end Go.Proofs.YtcaoblilkgajoaaDoor
end
section
namespace Go.Proofs.YtcaoblilkgajoaaDoor
open Go Go.RowKit
attribute [local go_sem ↓] Go.wp_at_zero Go.wp_at_succ
/-- A lens: the half-edges at its sides. -/
structure Ln where
 p0 : Nat
 p1 : Nat
 p2 : Nat
 p3 : Nat
 q0 : Nat
 q1 : Nat
 q2 : Nat
 q3 : Nat
def Ln.cells (l : Ln) : List Value := [.int .i64 (l.p0 : Int), .int .i64 (l.p1 : Int), .int .i64 (l.p2 : Int), .int .i64 (l.p3 : Int), .int .i64 (l.q0 : Int), .int .i64 (l.q1 : Int), .int .i64 (l.q2 : Int), .int .i64 (l.q3 : Int)]
def lensOf (d : Pl.Dg) (h : Nat) : Ln := ⟨h, d.m (Pl.nx d h), Pl.tn h 2, Pl.tn (d.m (Pl.nx d h)) 2, Pl.tn (d.m h) 2, Pl.nx d h, d.m h, Pl.tn (Pl.nx d h) 2⟩
section
variable {w W W' : World} {gi : Nat} {dv lv mv iv : List Value}
end
section
variable {w W W' : World} {gi : Nat} {dv lv mv : List Value} {a s e : Value}
end
end Go.Proofs.YtcaoblilkgajoaaDoor
end
section
namespace Go.Proofs.YtcaoblilkgajoaaDoor
open Go Go.RowKit
attribute [local go_sem ↓] Go.wp_at_zero Go.wp_at_succ
section
variable {w W W' : World} {gl : Nat} {dv mv lv : List Value}
end
/-- The mates after the first strand is closed; after both; the loops. -/
def unpA (d : Pl.Dg) (l : Ln) : List Nat := if d.mt.getD l.p2 0 = l.q0 then d.mt else jn d.mt (d.mt.getD l.p2 0) (d.mt.getD l.q0 0)
def unpB (d : Pl.Dg) (l : Ln) : List Nat := if (unpA d l).getD l.p3 0 = l.q3 then unpA d l else jn (unpA d l) ((unpA d l).getD l.p3 0) ((unpA d l).getD l.q3 0)
def unpL (d : Pl.Dg) (l : Ln) : Nat := d.lp + (if d.mt.getD l.p2 0 = l.q0 then 1 else 0) + (if (unpA d l).getD l.p3 0 = l.q3 then 1 else 0)
def unpC (d : Pl.Dg) (x y : Nat) : Int := match lensI d x y with
 | none => 6
 | some i => if 64 < unpL d (lensOf d (lnH x y i)) then 5 else 0
def unpDl (d : Pl.Dg) (l : Ln) (x y : Nat) : Pl.Dg := ⟨Pl.shrS [x, y] d.sg, Pl.shrM [x, y] d.n (unpB d l), unpL d l⟩
end Go.Proofs.YtcaoblilkgajoaaDoor
end
section
namespace Go.Proofs.YtcaoblilkgajoaaDoor
open Go Go.RowKit
/-- A world in which the box of a call is as it was. -/
def DC (w : World) (dv : List Value) (w' : World) : Prop := Row w' w.heap.size 28 dv ∧ Below w.heap.size w w'
theorem DC.below {w : World} {dv : List Value} {W W' : World} (h : DC w dv W) (hb : Below W.heap.size W W') : DC w dv W' := ⟨h.1.below hb, h.2.trans (hb.mono h.2.size)⟩
theorem DC.drew {w : World} {dv : List Value} {W : World} (h : DC w dv W) : DC w dv W.drew := ⟨h.1, h.2.drew⟩
theorem DC.alloc {w : World} {dv : List Value} {W : World} (h : DC w dv W) (o : Obj) : DC w dv (W.alloc o) := h.below ((Below.refl _ _).alloc (Nat.le_refl _) o)
theorem DC.all {w : World} {a b c : Value} {W : World} (h : DC w [a, b, c] W) : W.cell? ⟨w.heap.size, 0, none⟩ = some a ∧ W.cell? ⟨w.heap.size, 1, none⟩ = some b ∧ W.cell? ⟨w.heap.size, 2, none⟩ = some c ∧ DC w [a, b, c] W :=
 ⟨h.1.cell (i := 0) (by simp), h.1.cell (i := 1) (by simp), h.1.cell (i := 2) (by simp), h⟩
theorem DC.start (w : World) (a b c : Value) : DC w [a, b, c] (w.alloc (.cells #[a, b, c] 28)) :=
 ⟨row_at (vs := [a, b, c]) rfl, (Below.refl _ _).alloc (Nat.le_refl _) _⟩
end Go.Proofs.YtcaoblilkgajoaaDoor
end
