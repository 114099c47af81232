/-
 The texts Val, Shr, Wj, Wk, Wl in one.
-/
import Derived.Test.YtlffopdoeobgaaaGreatDoorS03
import Derived.Test.YtlffopdoeobgaaaGreatDoorShelf
import Derived.Deep.AppendLies
import Derived.Maps.AppendAt
import Derived.Deep.RegionLaw
import Derived.StillTailTactics
set_option linter.unusedVariables false
set_option linter.unusedSimpArgs false
section
namespace Go.Proofs.YtlffopdoeobgaaaGreatDoor
open Go.RowKit
theorem ints_pv {w : World} {A : Option Addr} {n k : Nat} {zs : List Int} (h : IntsAt w A n zs) (hk : k < n) :
 ∃ b o, A = some ⟨b, o, none⟩ ∧ w.cell? ⟨b, o + k, none⟩ = some (.int .i64 (Pl.pv zs k)) := h.at_ hk
set_option maxRecDepth 100000 in
set_option maxHeartbeats 1500000 in
theorem valid_any (sg mt : List Int) (lp : Int) (A B : Option Addr) (n q cp cq : Nat) (w : World) (hs : IntsAt w A n sg) (hm : IntsAt w B q mt) (hn : n ≤ maxLen) (hq : q ≤ maxLen) (hlp : -9223372036854775808 ≤ lp ∧ lp ≤ 9223372036854775807) :
 Calls Tryz.prog 20 #[.agg #[.slice A n cp, .slice B q cq, .int .i64 lp]] w fun e w' => e = .returned (.bool (Pl.vb (Pl.VL sg mt lp))) ∧ Below w.heap.size w w' := by
 unfold maxLen at hn hq
 have HLS := hide hs.len
 have HLM := hide hm.len
 have b0 : Below w.heap.size w (w.alloc (.cells #[.slice A n cp, .slice B q cq, .int .i64 lp] 24)) := (Below.refl _ _).alloc (Nat.le_refl _) _
 by_cases h1 : 64 < n
 ·have HV := hide (fun h : Pl.VL sg mt lp => show False by have := h.few; have := HLS.out; omega)
  go_enter Tryz.func20, Tryz.ntmps20
  go_wp2
  go_ret
  exact ⟨ret_bool (Pl.vb_false HV.out).symm, b0⟩
 ·have h1' : decide (64 < (n : Int)) = false := by simp; omega
  by_cases h2 : q = 4 * n
  ·by_cases h3 : 0 ≤ lp ∧ lp ≤ 64
   ·have h2' : (((q : Nat) : Int) != 4 * (n : Int)) = false := by simp; omega
    have h3a : decide (lp < 0) = false := by simp; omega
    have h3b : decide (64 < lp) = false := by simp; omega
    have HQ4 := hide h2
    have hq6 : q ≤ 256 := by omega
    clear h2
    have x0 : Row (w.alloc (.cells #[.slice A n cp, .slice B q cq, .int .i64 lp] 24)) w.heap.size 24 (boxV A B n cp q cq (.int .i64 lp)) := Row.new w _ _
    go_enter Tryz.func20, Tryz.ntmps20
    go_wp2
    have B0 := hide b0
    have X0 := hide x0
    clear b0 x0 h1' h2' h3a h3b
    go_loopg [34] n (fun g i wx => ∃ k : Nat, k + g = n ∧ i = .int .i64 k ∧ (∀ c, c < k → Pl.pv sg c = 1 ∨ Pl.pv sg c = -1) ∧ Below w.heap.size w wx ∧ Row wx w.heap.size 24 (boxV A B n cp q cq (.int .i64 lp)))
    case atStart => exact ⟨0, by omega, rfl, fun c hc => absurd hc (by omega), B0.out, X0.out⟩
    case round =>
     clear B0 X0
     obtain ⟨k, hkg, rfl, hsg, b1, x1⟩ := hrel
     have HG := hide hkg
     have HSG := hide hsg
     have hkn : k ≤ n := by omega
     clear hkg hsg
     by_cases hlt : k < n
     ·obtain ⟨ab, ao, rfl, hc⟩ := ints_pv hs hlt
      have hc1 := cell_below hc b1
      have B1 := hide b1
      have X1 := hide x1
      clear b1 x1 hc
      by_cases hz : Pl.pv sg k = 1
      ·have HZ := hide hz
       rw [hz] at hc1
       clear hz
       go_wp2
       go_roundg (gk - 1)
       case measure => have := HG.out; omega
       case rel =>
        refine ⟨k + 1, by have := HG.out; omega, by go_num, fun c hc => ?_, B1.out, X1.out⟩
        by_cases e : c = k
        ·rw [e]; exact .inl HZ.out
        ·exact HSG.out c (by omega)
      ·by_cases hz2 : Pl.pv sg k = -1
       ·have HZ := hide hz2
        rw [hz2] at hc1
        clear hz hz2
        go_wp2
        go_roundg (gk - 1)
        case measure => have := HG.out; omega
        case rel =>
         refine ⟨k + 1, by have := HG.out; omega, by go_num, fun c hc => ?_, B1.out, X1.out⟩
         by_cases e : c = k
         ·rw [e]; exact .inr HZ.out
         ·exact HSG.out c (by omega)
       ·have HV := hide (fun h : Pl.VL sg mt lp => show False by
         rcases h.sign (c := k) (by have := HLS.out; omega) with e | e
         ·exact hz e
         ·exact hz2 e)
        have t1 : (Pl.pv sg k != 1) = true := by rw [bne_iff_ne]; exact hz
        have t2 : (Pl.pv sg k != -1) = true := by rw [bne_iff_ne]; exact hz2
        clear hz hz2
        go_wp2
        go_ret
        exact ⟨ret_bool (Pl.vb_false HV.out).symm, B1.out⟩
     ·have HSG' := hide (fun (c : Nat) (hc : c < sg.length) => HSG.out c (by have := HLS.out; omega))
      have B1 := hide b1
      have X1 := hide x1
      have x1c : wr.cell? ⟨w.heap.size, 1, none⟩ = some (.slice B q cq) := x1.cell (i := 1) (by show 1 < 3; omega)
      clear b1 x1 HSG HG
      go_wp2
      clear x1c
      go_loopg [48] q (fun g i wx => ∃ k : Nat, k + g = q ∧ i = .int .i64 k ∧ (∀ h, h < k → 0 ≤ Pl.pv mt h ∧ Pl.pv mt h < mt.length ∧ Pl.pv mt h ≠ h ∧ Pl.pv mt (Pl.pv mt h).toNat = h ∧ Pl.out (Pl.mk sg mt lp) h ≠ Pl.out (Pl.mk sg mt lp) (Pl.pv mt h).toNat) ∧ Below w.heap.size w wx ∧ Row wx w.heap.size 24 (boxV A B n cp q cq (.int .i64 lp)))
      case atStart => exact ⟨0, by omega, rfl, fun c hc => absurd hc (by omega), B1.out, X1.out⟩
      case round =>
       clear B1 X1
       obtain ⟨j, hjg, rfl, hmo, b2, x2⟩ := hrel
       have HG := hide hjg
       have HMO := hide hmo
       have hjq : j ≤ q := by omega
       clear hjg hmo
       by_cases hlt2 : j < q
       ·obtain ⟨bb, bo, rfl, hc⟩ := ints_pv hm hlt2
        have hc1 := cell_below hc b2
        have x2c : wr.cell? ⟨w.heap.size, 1, none⟩ = some (.slice (some ⟨bb, bo, none⟩) q cq) := x2.cell (i := 1) (by show 1 < 3; omega)
        have hjl : j < mt.length := by have := HLM.out; omega
        have B2 := hide b2
        have X2 := hide x2
        clear b2 x2 hc
        by_cases hz0 : Pl.pv mt j < 0
        ·have HV := hide (fun h : Pl.VL sg mt lp => show False by have := (h.mate hjl).1; omega)
         have t1 : decide (Pl.pv mt j < 0) = true := by simpa using hz0
         clear hz0
         go_wp2
         go_ret
         exact ⟨ret_bool (Pl.vb_false HV.out).symm, B2.out⟩
        ·have t1 : decide (Pl.pv mt j < 0) = false := by simpa using hz0
         by_cases hz1 : Pl.pv mt j < q
         ·obtain ⟨t, ht⟩ : ∃ t : Nat, Pl.pv mt j = t := ⟨(Pl.pv mt j).toNat, by omega⟩
          have htq : t < q := by omega
          have t2 : decide (4 * (n : Int) ≤ (t : Int)) = false := by have := HQ4.out; simp; omega
          rw [ht] at hc1 t1
          have HT := hide ht
          have hj4 : j < 4 * n := by have := HQ4.out; omega
          have ht4 : t < 4 * n := by have := HQ4.out; omega
          clear hz0 hz1 ht
          by_cases htj : t = j
          ·have HV := hide (fun h : Pl.VL sg mt lp => show False by have := (h.mate hjl).2.2.1; rw [HT.out] at this; omega)
           have t3 : (((t : Nat) : Int) == (j : Int)) = true := by simp; omega
           clear htj
           go_wp2
           go_ret
           exact ⟨ret_bool (Pl.vb_false HV.out).symm, B2.out⟩
          ·have t3 : (((t : Nat) : Int) == (j : Int)) = false := by simp; omega
           obtain ⟨bb', bo', ebb, hcb⟩ := ints_pv hm htq
           injection ebb with ebb
           injection ebb with ebb1 ebb2
           subst ebb1; subst ebb2
           have hc2 := cell_below hcb B2.out
           clear hcb
           by_cases hinv : Pl.pv mt t = j
           ·have HI := hide hinv
            rw [hinv] at hc2
            clear hinv
            have HSS := hide (fun (p : Cls (fun w' => Row w' w.heap.size 24 (boxV A (some ⟨bb, bo, none⟩) n cp q cq (.int .i64 lp)) ∧ Below w.heap.size w w')) (h : Nat) (hh : h < 4 * n) =>
             calls_cls (C := fun w' => Row w' w.heap.size 24 (boxV A (some ⟨bb, bo, none⟩) n cp q cq (.int .i64 lp)) ∧ Below w.heap.size w w')
              (out_n (Pl.mk sg mt lp) A (some ⟨bb, bo, none⟩) n cp q cq (.int .i64 lp) h p.w HLS.out.symm hh (by omega) (hs.keep p.ok.2)) (fun e w' h => ⟨h.1, p.ok.1.below h.2, p.ok.2.trans (h.2.mono p.ok.2.size)⟩))
            have c30 : ∀ p : Cls (fun w' => Row w' w.heap.size 24 (boxV A (some ⟨bb, bo, none⟩) n cp q cq (.int .i64 lp)) ∧ Below w.heap.size w w'), p.w.cell? ⟨w.heap.size, 0, none⟩ = some (.slice A n cp) := fun p => p.ok.1.cell (i := 0) (by show 0 < 3; omega)
            have c31 : ∀ p : Cls (fun w' => Row w' w.heap.size 24 (boxV A (some ⟨bb, bo, none⟩) n cp q cq (.int .i64 lp)) ∧ Below w.heap.size w w'), p.w.cell? ⟨w.heap.size, 1, none⟩ = some (.slice (some ⟨bb, bo, none⟩) q cq) := fun p => p.ok.1.cell (i := 1) (by show 1 < 3; omega)
            have c32 : ∀ p : Cls (fun w' => Row w' w.heap.size 24 (boxV A (some ⟨bb, bo, none⟩) n cp q cq (.int .i64 lp)) ∧ Below w.heap.size w w'), p.w.cell? ⟨w.heap.size, 2, none⟩ = some (.int .i64 lp) := fun p => p.ok.1.cell (i := 2) (by show 2 < 3; omega)
            go_wp2
            refine wp_region_cls (fun w' => Row w' w.heap.size 24 (boxV A (some ⟨bb, bo, none⟩) n cp q cq (.int .i64 lp)) ∧ Below w.heap.size w w') (by kernel_rfl) (by kernel_rfl) ⟨X2.out.drew, B2.out.drew⟩ (fun hne => ?_)
            repeat (quiet_step ((go_at_call 41; exact HSS.out _ _ (by omega))))
            refine wpQuiet_nil ?_
            rintro _ ⟨p, rfl⟩
            have hp1 := hide p.ok.1
            have hp2 := hide p.ok.2
            clear HSS c30 c31 c32
            go_wp2
            ·have t5 : (Pl.out (Pl.mk sg mt lp) j == Pl.out (Pl.mk sg mt lp) t) = true := by assumption
             go_ret
             refine ⟨ret_bool (Pl.vb_false fun h => ?_).symm, hp2.out⟩
             have h5 := (h.mate hjl).2.2.2.2
             rw [HT.out, Int.toNat_natCast] at h5
             exact h5 (beq_iff_eq.1 t5)
            ·have t5 : (Pl.out (Pl.mk sg mt lp) j == Pl.out (Pl.mk sg mt lp) t) = false := by assumption
             go_roundg (gk - 1)
             case measure => have := HG.out; omega
             case rel =>
              refine ⟨j + 1, by have := HG.out; omega, by go_num, fun h hh => ?_, hp2.out, hp1.out⟩
              by_cases e : h = j
              ·subst e
               rw [HT.out, Int.toNat_natCast]
               exact ⟨by omega, by have := HLM.out; omega, by omega, HI.out, beq_eq_false_iff_ne.1 t5⟩
              ·exact HMO.out h (by omega)
           ·have HV := hide (fun h : Pl.VL sg mt lp => show False by
             have := (h.mate hjl).2.2.2.1
             rw [HT.out, Int.toNat_natCast] at this
             exact hinv this)
            have t4 : (Pl.pv mt t != (j : Int)) = true := by rw [bne_iff_ne]; exact hinv
            clear hinv
            go_wp2
            go_ret
            exact ⟨ret_bool (Pl.vb_false HV.out).symm, B2.out⟩
         ·have HV := hide (fun h : Pl.VL sg mt lp => show False by have := (h.mate hjl).2.1; have := HLM.out; omega)
          have t2 : decide (4 * (n : Int) ≤ Pl.pv mt j) = true := by have := HQ4.out; simp; omega
          clear hz0 hz1
          go_wp2
          go_ret
          exact ⟨ret_bool (Pl.vb_false HV.out).symm, B2.out⟩
       ·have hjq' : j = q := by omega
        have hw := Pl.wf_of (sg := sg) (mt := mt) (lp := lp) (by have := HLS.out; omega) (by have := HLS.out; have := HLM.out; have := HQ4.out; omega) h3 HSG'.out (fun k hk => HMO.out k (by have := HLM.out; omega))
        have hpos : ∀ z, z ∈ mt → 0 ≤ z := fun z hz => by
         obtain ⟨k, hk, rfl⟩ := Pl.mem_pv hz
         exact (HMO.out k (by have := HLM.out; omega)).1
        have HW := hide hw
        have HR := hide (Pl.VL.of hw hpos h3.1)
        have HN := hide (Pl.nats_mk (sg := sg) (lp := lp) hpos)
        have B2 := hide b2
        have x20 : wr.cell? ⟨w.heap.size, 0, none⟩ = some (.slice A n cp) := x2.cell (i := 0) (by show 0 < 3; omega)
        have x21 : wr.cell? ⟨w.heap.size, 1, none⟩ = some (.slice B q cq) := x2.cell (i := 1) (by show 1 < 3; omega)
        have x22 : wr.cell? ⟨w.heap.size, 2, none⟩ = some (.int .i64 lp) := x2.cell (i := 2) (by show 2 < 3; omega)
        clear b2 x2 hw hpos hjq'
        go_wp2_with fail
        refine (spherical_n (Pl.mk sg mt lp) HW.out A B n q cp cq (.int .i64 lp) _ HLS.out.symm (by have := HQ4.out; have := HLS.out; rw [Pl.mk_n]; omega) ?_ ⟨?_, ?_⟩).mono ?_
        ·show Value.int .i64 lp = .int .i64 ((lp.toNat : Nat) : Int)
         rw [Int.toNat_of_nonneg h3.1]
        ·rw [Pl.mk_n, HLS.out]; exact hs.keep B2.out
        ·unfold nats
         rw [HN.out, Pl.mk_n, HLS.out, ← HQ4.out]; exact hm.keep B2.out
        rintro e w3 ⟨rfl, hb3⟩
        go_wp2
        go_ret
        exact ⟨ret_bool (congrArg Pl.vb (propext HR.out.symm)), B2.out.trans (hb3.mono B2.out.size)⟩
   ·have HV := hide (fun h : Pl.VL sg mt lp => show False by have := h.loops; omega)
    have h2' : (((q : Nat) : Int) != 4 * (n : Int)) = false := by simp; omega
    have HQ2 := hide h2
    clear h2
    go_enter Tryz.func20, Tryz.ntmps20
    go_wp2
    all_goals
     go_ret
     exact ⟨ret_bool (Pl.vb_false HV.out).symm, b0⟩
  ·have HV := hide (fun h : Pl.VL sg mt lp => show False by have := h.len; have := HLS.out; have := HLM.out; omega)
   have h2' : (((q : Nat) : Int) != 4 * (n : Int)) = true := by simp; omega
   go_enter Tryz.func20, Tryz.ntmps20
   go_wp2
   go_ret
   exact ⟨ret_bool (Pl.vb_false HV.out).symm, b0⟩
end Go.Proofs.YtlffopdoeobgaaaGreatDoor
end
section
namespace Go.Proofs.YtlffopdoeobgaaaGreatDoor.Pl
def shf (gs : List Nat) (h : Nat) : Nat := h - 4 * (gs.filter (fun c => decide (c < h / 4))).length
def left (n : Nat) (gs : List Nat) : List Nat := (List.range n).filter (fun c => !gs.contains c)
def four (f : Nat → Nat) (c : Nat) : List Nat := [f (4 * c), f (4 * c + 1), f (4 * c + 2), f (4 * c + 3)]
def shrS (gs : List Nat) (sg : List Int) : List Int := (left sg.length gs).map (fun c => sg.getD c 0)
def shrM (gs : List Nat) (n : Nat) (mt : List Nat) : List Nat := (left n gs).flatMap (four (fun h => shf gs (mt.getD h 0)))
theorem left_succ (n : Nat) (gs : List Nat) : left (n + 1) gs = left n gs ++ if gs.contains n then [] else [n] := by
 unfold left
 rw [List.range_succ, List.filter_append]
 congr 1
 cases h : gs.contains n
 ·rw [List.filter_cons, if_pos (by rw [h]; rfl)]; rfl
 ·rw [List.filter_cons, if_neg (by rw [h]; decide)]; rfl
theorem left_zero (gs : List Nat) : left 0 gs = [] := rfl
theorem left_le (n : Nat) (gs : List Nat) : (left n gs).length ≤ n := by
 unfold left
 have := List.length_filter_le (fun c => !gs.contains c) (List.range n)
 simpa using this
theorem flat4 (l : List Nat) (f : Nat → Nat) : (l.flatMap (four f)).length = 4 * l.length := by
 induction l with
 | nil => rfl
 | cons a l ih => rw [List.flatMap_cons, List.length_append, ih, List.length_cons]; unfold four; simp only [List.length_cons, List.length_nil]; omega
theorem shrM_len (gs : List Nat) (n : Nat) (mt : List Nat) : (shrM gs n mt).length = 4 * (left n gs).length := flat4 _ _
theorem shrS_len (gs : List Nat) (sg : List Int) : (shrS gs sg).length = (left sg.length gs).length := by unfold shrS; rw [List.length_map]
theorem left_one {n c : Nat} (h : c < n) : (left n [c]).length + 1 = n := by
 induction n with
 | zero => omega
 | succ n ih =>
   rw [left_succ]
   by_cases e : c = n
   ·subst e
    have : ∀ k, k ≤ c → (left k [c]).length = k := by
     intro k
     induction k with
     | zero => intro _; rfl
     | succ k ihk => intro hk; rw [left_succ, List.length_append, ihk (by omega)]; have : [c].contains k = false := by simp; omega
                     rw [this]; rfl
    have h2 := this c (Nat.le_refl _)
    simp [h2]
   ·have h2 := ih (by omega)
    have : [c].contains n = false := by simp; omega
    rw [this, List.length_append]
    simp
    omega
theorem left_two {n x y : Nat} (h : x < y) (hy : y < n) : (left n [x, y]).length + 2 = n := by
 induction n with
 | zero => omega
 | succ n ih =>
   rw [left_succ, List.length_append]
   by_cases e : y = n
   ·subst e
    have : ∀ k, k ≤ y → left k [x, y] = left k [x] := by
     intro k
     induction k with
     | zero => intro _; rfl
     | succ k ihk =>
       intro hk
       rw [left_succ, left_succ, ihk (by omega)]
       congr 1
       have : ([x, y].contains k) = ([x].contains k) := by
        rw [Bool.eq_iff_iff]; simp; omega
       rw [this]
    rw [this y (Nat.le_refl _)]
    have := left_one h
    simp
    omega
   ·have h2 := ih (by omega)
    have : [x, y].contains n = false := by simp; omega
    rw [this]
    simp
    omega
theorem shf_one (c h : Nat) : shf [c] h = if c < h / 4 then h - 4 else h := by
 unfold shf
 by_cases e : c < h / 4 <;> simp [List.filter_cons, e]
def Few (gs : List Nat) : Prop := ∀ q : Nat, (gs.filter (fun c => decide (c < q))).length ≤ q
theorem few_one (c : Nat) : Few [c] := by
 intro q
 by_cases e : c < q
 ·simp [List.filter_cons, e]; omega
 ·simp [List.filter_cons, e]
theorem few_two {x y : Nat} (h : x < y) : Few [x, y] := by
 intro q
 by_cases e : x < q <;> by_cases e2 : y < q <;> simp [List.filter_cons, e, e2] <;> omega
theorem shf_le {gs : List Nat} (hf : Few gs) (h : Nat) : 4 * (gs.filter (fun c => decide (c < h / 4))).length ≤ h := by
 have := hf (h / 4)
 omega
end Go.Proofs.YtlffopdoeobgaaaGreatDoor.Pl
end
section
namespace Go.Proofs.YtlffopdoeobgaaaGreatDoor
open Go.RowKit
theorem out2_i (d : Pl.Dg) (A B : Option Addr) (n cp q cq : Nat) (l : Value) (h : Int) (w : World) (e : n = d.n) (hh : 0 ≤ h ∧ h < 4 * (n : Int)) (hn : n ≤ 1000) (hs : IntsAt w A n d.sg) :
 Calls Tryz.prog 131 #[.agg #[.slice A n cp, .slice B q cq, l], .int .i64 h] w fun e w' => e = .returned (.bool (Pl.out d h.toNat)) ∧ Below w.heap.size w w' := by
 obtain ⟨k, rfl⟩ := Int.eq_ofNat_of_zero_le hh.1
 exact out2_n d A B n cp q cq l k w e (by omega) hn hs
theorem opp_i (h : Int) (w : World) (hh : 0 ≤ h ∧ h ≤ 1000000) :
 Calls Tryz.prog 103 #[.int .i64 h] w fun e w' => e = .returned (.int .i64 (Pl.tn h.toNat 2 : Nat)) ∧ w' = w := by
 obtain ⟨k, rfl⟩ := Int.eq_ofNat_of_zero_le hh.1
 refine (opposite_any k w (by omega)).mono ?_
 rintro e w' ⟨rfl, rfl⟩
 exact ⟨rfl, rfl⟩
theorem below_drewN {B : Nat} {a w : World} (h : Below B a w) (n : Nat) : Below B a (w.drewN n) := ⟨h.os, h.tape, h.output, h.size, h.block⟩
def kk (d : Pl.Dg) (c : Nat) : Nat := if d.m (4 * c + 2) / 4 = c then 4 * c + 2 else if d.s c = 1 then 4 * c + 1 else 4 * c + 3
def isK (d : Pl.Dg) (c : Nat) : Prop := d.m (kk d c) / 4 = c
def kinkE (d : Pl.Dg) (c : Nat) (b : Bool) : Ending := if b then .returned (.tuple #[.int .i64 (Pl.tn (kk d c) 2 : Nat), .int .i64 (Pl.tn (d.m (kk d c)) 2 : Nat), .bool true]) else .returned (.tuple #[.int .i64 0, .int .i64 0, .bool false])
def KinkPost (d : Pl.Dg) (c : Nat) (w : World) (e : Ending) (w' : World) : Prop := e = kinkE d c (Pl.vb (isK d c)) ∧ Below w.heap.size w w'
theorem kink_at {d : Pl.Dg} {c o : Nat} {w : World} {e : Ending} {w' : World} (h : kk d c = o) (hm : d.m o / 4 = c) (he : e = .returned (.tuple #[.int .i64 (Pl.tn o 2 : Nat), .int .i64 (Pl.tn (d.m o) 2 : Nat), .bool true])) (hb : Below w.heap.size w w') : KinkPost d c w e w' := by
 refine ⟨?_, hb⟩
 rw [Pl.vb_true (show isK d c by unfold isK; rw [h]; exact hm)]
 unfold kinkE
 rw [if_pos rfl, h, he]
theorem kink_no {d : Pl.Dg} {c : Nat} {w : World} {e : Ending} {w' : World} (h : ¬ d.m (kk d c) / 4 = c) (he : e = .returned (.tuple #[.int .i64 0, .int .i64 0, .bool false])) (hb : Below w.heap.size w w') : KinkPost d c w e w' := by
 refine ⟨?_, hb⟩
 rw [Pl.vb_false (show ¬ isK d c from h)]
 exact he
set_option maxRecDepth 100000 in
set_option maxHeartbeats 2000000 in
theorem kink_any (d : Pl.Dg) (hd : Pl.Wf d) (A B : Option Addr) (cp cq m c : Nat) (w : World) (hm : m = 4 * d.n) (hg : DgAt w A B d) (hc : c < d.n) :
 Calls Tryz.prog 84 #[.agg #[.slice A d.n cp, .slice B m cq, .int .i64 d.lp], .int .i64 (c : Int)] w (KinkPost d c w) := by
 have hn := hd.few
 have HM := hide hm
 clear hm
 have hmm : m ≤ 256 := by have := HM.out; omega
 have HG := hide hg
 clear hg
 have x0 : Row (w.alloc (.cells #[.slice A d.n cp, .slice B m cq, .int .i64 d.lp] 24)) w.heap.size 24 [.slice A d.n cp, .slice B m cq, .int .i64 d.lp] := Row.new w _ _
 have X0 := hide x0
 have B0 := hide (show Below w.heap.size w (w.alloc (.cells #[.slice A d.n cp, .slice B m cq, .int .i64 d.lp] 24)) from (Below.refl _ _).alloc (Nat.le_refl _) _)
 clear x0
 go_enter Tryz.func84, Tryz.ntmps84
 go_wp2
 go_loopg [11] 3 (fun g i wx => ∃ k : Nat, k + g = 3 ∧ i = .int .i64 k ∧ (0 < k → ¬ d.m (4 * c + 2) / 4 = c) ∧ (1 < k → d.s c = 1 → ¬ d.m (4 * c + 1) / 4 = c) ∧ (2 < k → d.s c = -1 → ¬ d.m (4 * c + 3) / 4 = c) ∧ Below w.heap.size w wx ∧ Row wx w.heap.size 24 [.slice A d.n cp, .slice B m cq, .int .i64 d.lp])
 case atStart => exact ⟨0, rfl, rfl, fun h => absurd h (by omega), fun h => absurd h (by omega), fun h => absurd h (by omega), B0.out, X0.out⟩
 case round =>
  clear B0 X0
  obtain ⟨k, hkg, rfl, q0, q1, q2, b1, x1⟩ := hrel
  have HG0 := hide hkg
  have Q0 := hide q0
  have Q1 := hide q1
  have Q2 := hide q2
  have B1 := hide b1
  have X1 := hide x1
  have hk4 : k = 0 ∨ k = 1 ∨ k = 2 ∨ k = 3 := by omega
  obtain ⟨e0, e1, e2, e3⟩ := box3 x1
  have i0 : ∀ W, (Instr.index 156 (.agg #[.int .i64 2, .int .i64 1, .int .i64 3]) (.int .i64 0)).run Tryz.prog W = .ok (.int .i64 2) W := fun _ => by kernel_rfl
  have i1 : ∀ W, (Instr.index 156 (.agg #[.int .i64 2, .int .i64 1, .int .i64 3]) (.int .i64 1)).run Tryz.prog W = .ok (.int .i64 1) W := fun _ => by kernel_rfl
  have i2 : ∀ W, (Instr.index 156 (.agg #[.int .i64 2, .int .i64 1, .int .i64 3]) (.int .i64 2)).run Tryz.prog W = .ok (.int .i64 3) W := fun _ => by kernel_rfl
  clear hkg q0 q1 q2 b1 x1
  rcases hk4 with rfl | rfl | rfl | rfl
  ·go_wp2_with fail
   refine (out2_i d A B d.n cp m cq (.int .i64 d.lp) _ _ rfl (by omega) (by omega) (HG.out.s.keep B1.out)).mono ?_
   rintro e w2 ⟨rfl, hb2⟩
   have B2 := hide (B1.out.trans (hb2.mono B1.out.size))
   have X2 := hide (X1.out.below hb2)
   have HG2 := hide (HG.out.keep B2.out)
   have et : (4 * (c : Int) + 2).toNat = 4 * c + 2 := by omega
   rw [et]
   clear et hb2
   obtain ⟨b, o, rfl, cm⟩ := mate_at HG2.out.m (k := 4 * c + 2) (by omega)
   obtain ⟨f0, f1, f2, f3⟩ := box3 X2.out
   have g1 : (0 : Int) ≤ 4 * (c : Int) + 2 := by omega
   have g2 : 4 * (c : Int) + 2 < (m : Int) := by have := HM.out; omega
   have lt := hd.lt (4 * c + 2) (by omega)
   obtain ⟨x, hx⟩ : ∃ x, x = d.m (4 * c + 2) := ⟨_, rfl⟩
   rw [← hx] at cm lt
   have HX := hide hx
   clear hx
   have hO : Pl.out d (4 * c + 2) = true := out_two (by omega)
   rw [hO]
   clear hO
   by_cases hk : x / 4 = c
   ·have t1 : ((x : Int) / 4 == (c : Int)) = true := by rw [beq_iff_eq]; omega
    have HK := hide hk
    clear hk
    go_wp2_with fail
    go_quiet ((go_at_call 103; exact Calls.quiet_of_same (opp_i _ _ (by omega))))
    go_wp2
    go_ret3
    have hkk : kk d c = 4 * c + 2 := by unfold kk; rw [if_pos (by rw [← HX.out]; exact HK.out)]
    refine kink_at hkk (by rw [← HX.out]; exact HK.out) ?_ (below_drewN B2.out _)
    rw [← HX.out, show (4 * (c : Int) + 2).toNat = 4 * c + 2 by omega, Int.toNat_natCast]
    rfl
   ·have t1 : ((x : Int) / 4 == (c : Int)) = false := by rw [beq_eq_false_iff_ne]; omega
    have HK := hide hk
    clear hk
    go_wp2
    go_roundg 2
    case measure => have := HG0.out; omega
    case rel => exact ⟨1, rfl, by go_num, fun _ => by rw [← HX.out]; exact HK.out, fun h => absurd h (by omega), fun h => absurd h (by omega), B2.out, X2.out⟩
  ·go_wp2_with fail
   refine (out2_i d A B d.n cp m cq (.int .i64 d.lp) _ _ rfl (by omega) (by omega) (HG.out.s.keep B1.out)).mono ?_
   rintro e w2 ⟨rfl, hb2⟩
   have B2 := hide (B1.out.trans (hb2.mono B1.out.size))
   have X2 := hide (X1.out.below hb2)
   have HG2 := hide (HG.out.keep B2.out)
   have et : (4 * (c : Int) + 1).toNat = 4 * c + 1 := by omega
   rw [et]
   clear et hb2
   obtain ⟨b, o, rfl, cm⟩ := mate_at HG2.out.m (k := 4 * c + 1) (by omega)
   obtain ⟨f0, f1, f2, f3⟩ := box3 X2.out
   have g1 : (0 : Int) ≤ 4 * (c : Int) + 1 := by omega
   have g2 : 4 * (c : Int) + 1 < (m : Int) := by have := HM.out; omega
   have lt := hd.lt (4 * c + 1) (by omega)
   obtain ⟨x, hx⟩ : ∃ x, x = d.m (4 * c + 1) := ⟨_, rfl⟩
   rw [← hx] at cm lt
   have HX := hide hx
   clear hx
   by_cases hs1 : d.s c = 1
   ·have S1 := hide hs1
    clear hs1
    have hO : Pl.out d (4 * c + 1) = true := by rw [out_one (by omega), show (4 * c + 1) / 4 = c by omega, S1.out]; rfl
    rw [hO]
    clear hO
    by_cases hk : x / 4 = c
    ·have t1 : ((x : Int) / 4 == (c : Int)) = true := by rw [beq_iff_eq]; omega
     have HK := hide hk
     clear hk
     go_wp2_with fail
     go_quiet ((go_at_call 103; exact Calls.quiet_of_same (opp_i _ _ (by omega))))
     go_wp2
     go_ret3
     have hkk : kk d c = 4 * c + 1 := by unfold kk; rw [if_neg (Q0.out (by omega)), if_pos S1.out]
     refine kink_at hkk (by rw [← HX.out]; exact HK.out) ?_ (below_drewN B2.out _)
     rw [← HX.out, show (4 * (c : Int) + 1).toNat = 4 * c + 1 by omega, Int.toNat_natCast]
     rfl
    ·have t1 : ((x : Int) / 4 == (c : Int)) = false := by rw [beq_eq_false_iff_ne]; omega
     have HK := hide hk
     clear hk
     go_wp2
     go_roundg 1
     case measure => have := HG0.out; omega
     case rel => exact ⟨2, rfl, by go_num, fun _ => Q0.out (by omega), fun _ _ => by rw [← HX.out]; exact HK.out, fun h => absurd h (by omega), B2.out, X2.out⟩
   ·have S1 := hide hs1
    clear hs1
    have hO : Pl.out d (4 * c + 1) = false := by rw [out_one (by omega), show (4 * c + 1) / 4 = c by omega, beq_eq_false_iff_ne]; exact S1.out
    rw [hO]
    clear hO
    go_wp2
    go_roundg 1
    case measure => have := HG0.out; omega
    case rel => exact ⟨2, rfl, by go_num, fun _ => Q0.out (by omega), fun _ h => absurd h S1.out, fun h => absurd h (by omega), B2.out, X2.out⟩
  ·go_wp2_with fail
   refine (out2_i d A B d.n cp m cq (.int .i64 d.lp) _ _ rfl (by omega) (by omega) (HG.out.s.keep B1.out)).mono ?_
   rintro e w2 ⟨rfl, hb2⟩
   have B2 := hide (B1.out.trans (hb2.mono B1.out.size))
   have X2 := hide (X1.out.below hb2)
   have HG2 := hide (HG.out.keep B2.out)
   have et : (4 * (c : Int) + 3).toNat = 4 * c + 3 := by omega
   rw [et]
   clear et hb2
   obtain ⟨b, o, rfl, cm⟩ := mate_at HG2.out.m (k := 4 * c + 3) (by omega)
   obtain ⟨f0, f1, f2, f3⟩ := box3 X2.out
   have g1 : (0 : Int) ≤ 4 * (c : Int) + 3 := by omega
   have g2 : 4 * (c : Int) + 3 < (m : Int) := by have := HM.out; omega
   have lt := hd.lt (4 * c + 3) (by omega)
   obtain ⟨x, hx⟩ : ∃ x, x = d.m (4 * c + 3) := ⟨_, rfl⟩
   rw [← hx] at cm lt
   have HX := hide hx
   clear hx
   by_cases hs1 : d.s c = -1
   ·have S1 := hide hs1
    have S2 := hide (show ¬ d.s c = 1 by omega)
    clear hs1
    have hO : Pl.out d (4 * c + 3) = true := by rw [out_three (by omega), show (4 * c + 3) / 4 = c by omega, S1.out]; rfl
    rw [hO]
    clear hO
    by_cases hk : x / 4 = c
    ·have t1 : ((x : Int) / 4 == (c : Int)) = true := by rw [beq_iff_eq]; omega
     have HK := hide hk
     clear hk
     go_wp2_with fail
     go_quiet ((go_at_call 103; exact Calls.quiet_of_same (opp_i _ _ (by omega))))
     go_wp2
     go_ret3
     have hkk : kk d c = 4 * c + 3 := by unfold kk; rw [if_neg (Q0.out (by omega)), if_neg S2.out]
     refine kink_at hkk (by rw [← HX.out]; exact HK.out) ?_ (below_drewN B2.out _)
     rw [← HX.out, show (4 * (c : Int) + 3).toNat = 4 * c + 3 by omega, Int.toNat_natCast]
     rfl
    ·have t1 : ((x : Int) / 4 == (c : Int)) = false := by rw [beq_eq_false_iff_ne]; omega
     have HK := hide hk
     clear hk
     go_wp2
     go_roundg 0
     case measure => have := HG0.out; omega
     case rel => exact ⟨3, rfl, by go_num, fun _ => Q0.out (by omega), fun _ => Q1.out (by omega), fun _ _ => by rw [← HX.out]; exact HK.out, B2.out, X2.out⟩
   ·have S1 := hide hs1
    clear hs1
    have hO : Pl.out d (4 * c + 3) = false := by rw [out_three (by omega), show (4 * c + 3) / 4 = c by omega, beq_eq_false_iff_ne]; exact S1.out
    rw [hO]
    clear hO
    go_wp2
    go_roundg 0
    case measure => have := HG0.out; omega
    case rel => exact ⟨3, rfl, by go_num, fun _ => Q0.out (by omega), fun _ => Q1.out (by omega), fun _ h => absurd h S1.out, B2.out, X2.out⟩
  ·go_wp2
   go_ret3
   refine kink_no ?_ rfl B1.out
   unfold kk
   have h0 := Q0.out (by omega)
   rw [if_neg h0]
   rcases hd.sign c hc with h | h
   ·rw [if_pos h]; exact Q1.out (by omega) h
   ·rw [if_neg (by omega)]; exact Q2.out (by omega) h
end Go.Proofs.YtlffopdoeobgaaaGreatDoor
end
section
namespace Go.Proofs.YtlffopdoeobgaaaGreatDoor
open Go.RowKit
def ahd (gs : List Nat) (h k : Nat) : Nat := ((gs.take k).filter (fun c => decide (c < h / 4))).length
theorem ahd_le (gs : List Nat) (h k : Nat) : ahd gs h k ≤ k := by
 unfold ahd
 have := List.length_filter_le (fun c => decide (c < h / 4)) (gs.take k)
 have := List.length_take_le k gs
 omega
theorem ahd_succ {gs : List Nat} {k : Nat} (hk : k < gs.length) (h : Nat) : ahd gs h (k + 1) = ahd gs h k + if gs.getD k 0 < h / 4 then 1 else 0 := by
 unfold ahd
 rw [List.take_succ_eq_append_getElem hk, List.filter_append, List.length_append, List.getD_eq_getElem?_getD, List.getElem?_eq_getElem hk]
 by_cases e : gs[k] < h / 4 <;> simp [List.filter_cons, e]
theorem ahd_all {gs : List Nat} {k : Nat} (hk : gs.length ≤ k) (h : Nat) : ahd gs h k = (gs.filter (fun c => decide (c < h / 4))).length := by
 unfold ahd
 rw [List.take_of_length_le hk]
theorem nats_at {w : World} {A : Option Addr} {n k : Nat} {gs : List Nat} (h : IntsAt w A n (nats gs)) (hk : k < n) :
 ∃ b o, A = some ⟨b, o, none⟩ ∧ w.cell? ⟨b, o + k, none⟩ = some (.int .i64 (gs.getD k 0 : Nat)) := by
 obtain ⟨b, o, e, hc⟩ := h.at_ hk
 refine ⟨b, o, e, hc.trans ?_⟩
 have hl := h.len
 unfold nats at hl ⊢
 rw [List.length_map] at hl
 rw [List.getD_eq_getElem?_getD, List.getD_eq_getElem?_getD, List.getElem?_map, List.getElem?_eq_getElem (by omega)]; rfl
set_option maxRecDepth 100000 in
set_option maxHeartbeats 1000000 in
theorem shifted_any (gs : List Nat) (A : Option Addr) (n c h : Nat) (w : World) (hg : IntsAt w A n (nats gs)) (hn : n ≤ 100) (hh : h ≤ 100000) (hf : Pl.Few gs) :
 Calls Tryz.prog 86 #[.int .i64 (h : Int), .slice A n c] w fun e w' => e = .returned (.int .i64 (Pl.shf gs h : Nat)) ∧ w' = w := by
 have hl := hg.len
 unfold nats at hl
 rw [List.length_map] at hl
 have HL := hide hl
 have HG := hide hg
 clear hl hg
 go_enter Tryz.func86, Tryz.ntmps86
 go_wp2
 go_loop [5, 10] (fun b i => ∃ k : Nat, k ≤ n ∧ i = .int .i64 k ∧ b = .int .i64 (4 * (ahd gs h k : Nat))) (fun _ i => n - (intOf i).toNat)
 case atStart => exact ⟨0, by omega, rfl, rfl⟩
 case round =>
  obtain ⟨k, hk, rfl, rfl⟩ := hrel
  have hle := ahd_le gs h k
  by_cases hlt : k < n
  ·obtain ⟨b, o, rfl, hc⟩ := nats_at HG.out hlt
   have HS := hide (ahd_succ (gs := gs) (k := k) (by have := HL.out; omega) h)
   obtain ⟨x, hx⟩ : ∃ x, x = gs.getD k 0 := ⟨_, rfl⟩
   rw [← hx] at hc HS
   clear hx
   by_cases ht : x < h / 4
   ·have HT := hide ht
    have t1 : decide ((x : Int) < (h : Int) / 4) = true := by simp; omega
    clear ht
    go_wp2
    go_round
    case rel => exact ⟨k + 1, by omega, by go_num, by rw [HS.out, if_pos HT.out]; go_num⟩
    case measure => simp [intOf]; omega
   ·have HT := hide ht
    have t1 : decide ((x : Int) < (h : Int) / 4) = false := by simp; omega
    clear ht
    go_wp2
    go_round
    case rel => exact ⟨k + 1, by omega, by go_num, by rw [HS.out, if_neg HT.out]; go_num⟩
    case measure => simp [intOf]; omega
  ·go_wp2
   go_ret
   refine ⟨ret_int ?_, rfl⟩
   have h1 := ahd_all (gs := gs) (k := k) (by have := HL.out; omega) h
   have h2 := Pl.shf_le hf h
   unfold Pl.shf
   rw [h1]
   omega
end Go.Proofs.YtlffopdoeobgaaaGreatDoor
end
section
namespace Go.Proofs.YtlffopdoeobgaaaGreatDoor
open Go Go.RowKit
structure Shk (w : World) (vS vM : Value) (ss : List Int) (ms : List Nat) (lp : Int) (W : World) : Prop where
 res : Row W w.heap.size 24 [.slice none 0 0, .slice none 0 0, .int .i64 0]
 box : Row W (w.heap.size + 1) 24 [vS, vM, .int .i64 lp]
 s : W.ownsRow (w.heap.size + 2) 3 1 vS ss.length (ss.map (.int .i64))
 m : W.ownsRow (w.heap.size + 2) 3 1 vM ms.length (ms.map (fun k : Nat => Value.int .i64 k))
 ne : ∀ g, vS.ownBlock = some g → vM.ownBlock ≠ some g
 bel : Below w.heap.size w W
theorem Shk.big {w : World} {vS vM : Value} {ss : List Int} {ms : List Nat} {lp : Int} {W : World} (h : Shk w vS vM ss ms lp W) : w.heap.size + 2 ≤ W.heap.size := by have := h.box.lt; omega
theorem Shk.below {w : World} {vS vM : Value} {ss : List Int} {ms : List Nat} {lp : Int} {W W' : World} (h : Shk w vS vM ss ms lp W) (hb : Below W.heap.size W W') : Shk w vS vM ss ms lp W' :=
 ⟨h.res.below hb, h.box.below hb, own_keep h.s hb (Nat.le_refl _), own_keep h.m hb (Nat.le_refl _), h.ne, h.bel.trans (hb.mono (by have := h.big; omega))⟩
theorem Shk.alloc {w : World} {vS vM : Value} {ss : List Int} {ms : List Nat} {lp : Int} {W : World} (h : Shk w vS vM ss ms lp W) (o : Obj) : Shk w vS vM ss ms lp (W.alloc o) := h.below ((Below.refl _ _).alloc (Nat.le_refl _) o)
theorem row_apart {W : World} {g : Nat} {vs : List Value} {base : Nat} {v : Value} {n : Nat} {xs : List Value} (h : Row W g 24 vs) (ho : W.ownsRow base 3 1 v n xs) : some g ≠ v.ownBlock := by
 intro e
 obtain ⟨cs, fr, h3⟩ := ownsRow_block ho g e.symm
 rw [h] at h3
 injection h3 with h3
 injection h3 with _ h4
 exact absurd h4 (by decide)
theorem Shk.appS {w : World} {vS vM v' : Value} {ss : List Int} {ms : List Nat} {lp x : Int} {W W2 : World} (h : Shk w vS vM ss ms lp W) (own : W2.ownsRow (w.heap.size + 2) 3 1 v' (ss.length + 1) (ss.map (.int .i64) ++ [.int .i64 x])) (gr : W.grownBy W2 vS.ownBlock) {g' : Nat} (hv : v'.ownBlock = some g') (hat0 : vS.ownBlock = some g' ∨ g' = W.heap.size) :
 Shk w v' vM (ss ++ [x]) ms lp (W2.setCell ⟨w.heap.size + 1, 0, none⟩ v') := by
 have hat : v'.ownBlock = vS.ownBlock ∨ v'.ownBlock = some W.heap.size := by
  rcases hat0 with e | e
  ·exact .inl (hv.trans e.symm)
  ·exact .inr (hv.trans (congrArg some e))
 have hlt := h.s.lt
 have hlm := h.m.lt
 refine ⟨(h.res.grown gr (row_apart h.res h.s)).other (by simp) _, (h.box.grown gr (row_apart h.box h.s)).set 0 v', ?_, ?_, ?_, ?_⟩
 ·refine ownsRow_setCell_below ?_ (by simp) _
  simpa using own
 ·refine ownsRow_setCell_below (h.m.kept gr ?_) (by simp) _
  cases hm : vM.ownBlock with
  | none => exact .inl rfl
  | some g => exact .inr (fun e => h.ne g e.symm hm)
 ·intro g hg hm
  rcases hat with e | e
  ·exact h.ne g (e ▸ hg) hm
  ·rw [e] at hg
   injection hg with hg
   have := (hlm g hm).2
   omega
 ·exact (h.bel.grown gr h.bel.size (fun k hk => by have := (hlt k hk).1; omega)).setCell (by simp) _
theorem Shk.appM {w : World} {vS vM v' : Value} {ss : List Int} {ms : List Nat} {lp : Int} {x : Nat} {W W2 : World} (h : Shk w vS vM ss ms lp W) (own : W2.ownsRow (w.heap.size + 2) 3 1 v' (ms.length + 1) (ms.map (fun k : Nat => Value.int .i64 k) ++ [.int .i64 x])) (gr : W.grownBy W2 vM.ownBlock) {g' : Nat} (hv : v'.ownBlock = some g') (hat0 : vM.ownBlock = some g' ∨ g' = W.heap.size) :
 Shk w vS v' ss (ms ++ [x]) lp (W2.setCell ⟨w.heap.size + 1, 1, none⟩ v') := by
 have hat : v'.ownBlock = vM.ownBlock ∨ v'.ownBlock = some W.heap.size := by
  rcases hat0 with e | e
  ·exact .inl (hv.trans e.symm)
  ·exact .inr (hv.trans (congrArg some e))
 have hlt := h.s.lt
 have hlm := h.m.lt
 refine ⟨(h.res.grown gr (row_apart h.res h.m)).other (by simp) _, (h.box.grown gr (row_apart h.box h.m)).set 1 v', ?_, ?_, ?_, ?_⟩
 ·refine ownsRow_setCell_below (h.s.kept gr ?_) (by simp) _
  cases hm : vS.ownBlock with
  | none => exact .inl rfl
  | some g => exact .inr (fun e => h.ne g hm e.symm)
 ·refine ownsRow_setCell_below ?_ (by simp) _
  simpa using own
 ·intro g hg hm
  rcases hat with e | e
  ·exact h.ne g hg (e ▸ hm)
  ·rw [e] at hm
   injection hm with hm
   have := (hlt g hg).2
   omega
 ·exact (h.bel.grown gr h.bel.size (fun k hk => by have := (hlm k hk).1; omega)).setCell (by simp) _
theorem one_news (W : World) (x : Value) : ∀ j u, [x][j]? = some u → (W.alloc (.cells #[x] 3)).cell? ((⟨W.heap.size, 0, none⟩ : Addr).add j) = some u := by
 intro j u hu
 match j, hu with
 | 0, hu => simp at hu; subst hu; exact (Lib.cell_of_heap (heap_alloc_new W _) 0).trans rfl
theorem contains_nats (gs : List Nat) (k : Nat) : (gs.map (fun m : Nat => (m : Int))).contains (k : Int) = gs.contains k := by
 rw [Bool.eq_iff_iff]
 simp
 exact ⟨fun ⟨a, h, e⟩ => (show a = k by omega) ▸ h, fun h => ⟨k, h, rfl⟩⟩
theorem contains_any (gs : List Nat) (A : Option Addr) (n c k : Nat) (w : World) (hg : IntsAt w A n (nats gs)) (hn : 1 ≤ n ∧ n ≤ 100) :
 Calls Tryz.prog 133 #[.slice A n c, .int .i64 (k : Int)] w fun e w' => e = .returned (.bool (gs.contains k)) ∧ w' = w := by
 have hl := hg.len
 obtain ⟨b, o, rfl, hc⟩ := hg.2 (by omega)
 have := Tryz.slices_Contains_int b o n c (nats gs) (k : Int) w (by omega) (by omega) (fun j hj => hc j _ (by
  rw [List.getElem?_map, List.getElem?_eq_getElem hj, List.getD_eq_getElem?_getD, List.getElem?_eq_getElem hj]; rfl))
 refine this.mono ?_
 rintro e w' ⟨rfl, rfl⟩
 refine ⟨?_, rfl⟩
 rw [List.take_of_length_le (by omega)]
 unfold nats
 rw [contains_nats]
def shM (gs : List Nat) (mt : List Nat) (k : Nat) : List Nat := (Pl.left k gs).flatMap (Pl.four (fun h => Pl.shf gs (mt.getD h 0)))
def shS (gs : List Nat) (sg : List Int) (k : Nat) : List Int := (Pl.left k gs).map (fun c => sg.getD c 0)
theorem shM_stay {gs : List Nat} {k : Nat} (h : gs.contains k = false) (mt : List Nat) : shM gs mt (k + 1) = shM gs mt k ++ [Pl.shf gs (mt.getD (4 * k) 0), Pl.shf gs (mt.getD (4 * k + 1) 0), Pl.shf gs (mt.getD (4 * k + 2) 0), Pl.shf gs (mt.getD (4 * k + 3) 0)] := by
 unfold shM
 rw [Pl.left_succ, h, List.flatMap_append]
 rfl
theorem shM_gone {gs : List Nat} {k : Nat} (h : gs.contains k = true) (mt : List Nat) : shM gs mt (k + 1) = shM gs mt k := by
 unfold shM
 rw [Pl.left_succ, h]
 simp
theorem shS_stay {gs : List Nat} {k : Nat} (h : gs.contains k = false) (sg : List Int) : shS gs sg (k + 1) = shS gs sg k ++ [sg.getD k 0] := by
 unfold shS
 rw [Pl.left_succ, h, List.map_append]
 rfl
theorem shS_gone {gs : List Nat} {k : Nat} (h : gs.contains k = true) (sg : List Int) : shS gs sg (k + 1) = shS gs sg k := by
 unfold shS
 rw [Pl.left_succ, h]
 simp
theorem shS_len (gs : List Nat) (sg : List Int) (k : Nat) : (shS gs sg k).length ≤ k := by unfold shS; rw [List.length_map]; exact Pl.left_le k gs
theorem shM_len (gs : List Nat) (mt : List Nat) (k : Nat) : (shM gs mt k).length ≤ 4 * k := by unfold shM; rw [Pl.flat4]; have := Pl.left_le k gs; omega
theorem shr_fin {w : World} {vS vM : Value} {ss : List Int} {ms : List Nat} {lp : Int} {W : World} (h : Shk w vS vM ss ms lp W) :
 (((W.setCell ⟨w.heap.size, 0, none⟩ vS).setCell ⟨w.heap.size, 1, none⟩ vM).setCell ⟨w.heap.size, 2, none⟩ (.int .i64 lp)).cell? ⟨w.heap.size, 0, none⟩ = some vS ∧
 (((W.setCell ⟨w.heap.size, 0, none⟩ vS).setCell ⟨w.heap.size, 1, none⟩ vM).setCell ⟨w.heap.size, 2, none⟩ (.int .i64 lp)).cell? ⟨w.heap.size, 1, none⟩ = some vM ∧
 (((W.setCell ⟨w.heap.size, 0, none⟩ vS).setCell ⟨w.heap.size, 1, none⟩ vM).setCell ⟨w.heap.size, 2, none⟩ (.int .i64 lp)).cell? ⟨w.heap.size, 2, none⟩ = some (.int .i64 lp) := by
 have r := ((h.res.set 0 vS).set 1 vM).set 2 (.int .i64 lp)
 exact ⟨r.cell (i := 0) (by simp), r.cell (i := 1) (by simp), r.cell (i := 2) (by simp)⟩
theorem four_take {f : Nat → Nat} (k : Nat) {j : Nat} (hj : j < 4) : (Pl.four f k).take (j + 1) = (Pl.four f k).take j ++ [f (4 * k + j)] := by
 have h : j = 0 ∨ j = 1 ∨ j = 2 ∨ j = 3 := by omega
 rcases h with rfl | rfl | rfl | rfl <;> rfl
def ShrPost (gs : List Nat) (sg : List Int) (mt : List Nat) (lp : Int) (w : World) (e : Ending) (w' : World) : Prop :=
 ∃ vS vM : Value, e = .returned (.agg #[vS, vM, .int .i64 lp]) ∧ w'.ownsRow (w.heap.size + 2) 3 1 vS (Pl.left sg.length gs).length ((Pl.shrS gs sg).map (.int .i64)) ∧ w'.ownsRow (w.heap.size + 2) 3 1 vM (4 * (Pl.left sg.length gs).length) ((Pl.shrM gs sg.length mt).map (fun k : Nat => Value.int .i64 k)) ∧ Below w.heap.size w w'
set_option maxRecDepth 100000 in
set_option maxHeartbeats 2000000 in
theorem shrunk_any (gs : List Nat) (sg : List Int) (mt : List Nat) (lp : Int) (A B C : Option Addr) (n q r cp cq cr : Nat) (w : World) (hs : IntsAt w A n sg) (hm : IntsAt w B q (nats mt)) (hg : IntsAt w C r (nats gs)) (hf : Pl.Few gs)
 (hq : q = 4 * n) (hcq : q ≤ cq) (hcq2 : cq ≤ maxLen) (hn : n ≤ 100) (hr : 1 ≤ r ∧ r ≤ 100) (hmt : ∀ h, mt.getD h 0 ≤ 1000) :
 Calls Tryz.prog 87 #[.slice A n cp, .slice B q cq, .int .i64 lp, .slice C r cr] w (ShrPost gs sg mt lp w) := by
 unfold maxLen at hcq2
 have hls := hs.len
 have HQ := hide hq
 have HS := hide hs
 have HMT := hide hm
 have HG := hide hg
 have HLS := hide hls
 clear hq hs hm hg hls
 go_enter Tryz.func87, Tryz.ntmps87
 go_wp2
 have H0 := hide (show Shk w (.slice none 0 0) (.slice none 0 0) [] [] lp ((w.alloc (.cells #[.slice none 0 0, .slice none 0 0, .int .i64 0] 24)).alloc (.cells #[.slice none 0 0, .slice none 0 0, .int .i64 lp] 24)) from
  ⟨(Row.new w _ [_, _, _]).alloc _, by have := Row.new (w.alloc (.cells #[.slice none 0 0, .slice none 0 0, .int .i64 0] 24)) 24 [.slice none 0 0, .slice none 0 0, .int .i64 lp]; simpa using this,
   World.ownsRow_nil _ _ _ _, World.ownsRow_nil _ _ _ _, fun g h => by simp [Value.ownBlock] at h, ((Below.refl _ _).alloc (Nat.le_refl _) _).alloc (by simp) _⟩)
 go_loopg [18] n (fun g i wx => ∃ (k : Nat) (vS vM : Value), k + g = n ∧ i = .int .i64 k ∧ Shk w vS vM (shS gs sg k) (shM gs mt k) lp wx)
 case atStart => exact ⟨0, .slice none 0 0, .slice none 0 0, by omega, rfl, H0.out⟩
 case round =>
  clear H0
  obtain ⟨k, vS, vM, hkg, rfl, hk⟩ := hrel
  have HKG := hide hkg
  have hkn : k ≤ n := by omega
  have HK := hide hk
  clear hkg hk
  obtain ⟨go, rfl⟩ : ∃ go, go = gk := ⟨_, rfl⟩
  by_cases hlt : k < n
  ·obtain ⟨ab, ao, rfl, hca⟩ := ints_pv (HS.out.keep HK.out.bel) hlt
   obtain ⟨x, hx⟩ : ∃ x, x = Pl.pv sg k := ⟨_, rfl⟩
   rw [← hx] at hca
   have HX := hide hx
   clear hx
   go_wp2_with fail
   refine (contains_any gs C r cr k _ (HG.out.keep HK.out.bel) hr).mono ?_
   rintro e w1 ⟨rfl, rfl⟩
   cases hc : gs.contains k with
   | true =>
     have HC := hide hc
     clear hc
     go_wp2
     go_roundg (go - 1)
     case measure => have := HKG.out; omega
     case rel => exact ⟨k + 1, vS, vM, by have := HKG.out; omega, by go_num, by rw [shM_gone HC.out, shS_gone HC.out]; exact HK.out⟩
   | false =>
     have HC := hide hc
     clear hc
     obtain ⟨i0, hi0, hz0, hz1, hz2⟩ := info_parts intInfo
     obtain ⟨e0, e1, e2, e3⟩ := box3 HK.out.box
     have hbig := HK.out.big
     have hsl := shS_len gs sg k
     obtain ⟨mb, mo, rfl, _⟩ := nats_at HMT.out (k := 4 * k) (by have := HQ.out; omega)
     have hq1 : (4 : Int) * (k : Int) + 4 ≤ (q : Int) := by have := HQ.out; omega
     have hq2 : (4 : Int) * (k : Int) + 4 ≤ (cq : Int) := by omega
     have hq3 : (q : Int) ≤ (cq : Int) := by omega
     go_wp2_with (at_builtin; refine wpList_append_lies _ (by rfl) _ _ 22 (by rfl) (w.heap.size + 2) 3 i0 (.int .i64 0) 1 8 Tryz.underlying22 hi0 hz0 hz1 hz2 rfl (by omega) vS (shS gs sg k).length ((shS gs sg k).map (.int .i64)) (by rfl) (HK.out.s.alloc _) ⟨w1.heap.size, 0, none⟩ 1 1 [.int .i64 x] (by rfl) (by rfl) (one_news w1 (.int .i64 x)) (by simp [Value.oneCell']) (by omega) (by unfold maxLen; omega) (by omega) (by simp; omega) (w1.heap.size + 1) (by simp) ?_; intro g2 c2 w2 own2 grow2 at2 lt2; obtain ⟨q0, q1, q2, q3⟩ := box3 (Row.grown (Row.alloc HK.out.box (.cells #[.int .i64 x] 3)) grow2 (row_apart (Row.alloc HK.out.box (.cells #[.int .i64 x] 3)) (World.ownsRow.alloc HK.out.s (.cells #[.int .i64 x] 3)))); have OWN2 := hide own2; have GR2 := hide grow2; have AT2 := hide at2; clear own2 grow2 at2)
     have H3 := hide (Shk.appS (HK.out.alloc (.cells #[.int .i64 x] 3)) OWN2.out GR2.out rfl (by simpa using AT2.out))
     clear q0 q1 q2 q3 e0 e1 e2 e3
     obtain ⟨vS', hvS'⟩ : ∃ v, v = Value.slice (some ⟨g2, 0, none⟩) ((shS gs sg k).length + 1) c2 := ⟨_, rfl⟩
     rw [← hvS'] at H3
     rw [HX.out, show Pl.pv sg k = sg.getD k 0 from rfl, ← shS_stay HC.out] at H3
     have HV := hide hvS'
     clear hvS'
     rw [show 4 * k + 4 - 4 * k = 4 from by omega]
     go_loopg [40] 4 (fun g i wx => ∃ (j : Nat) (vN : Value), j + g = 4 ∧ i = .int .i64 j ∧ Shk w vS' vN (shS gs sg (k + 1)) (shM gs mt k ++ (Pl.four (fun h => Pl.shf gs (mt.getD h 0)) k).take j) lp wx)
     case atStart => exact ⟨0, vM, by omega, rfl, by rw [← HV.out]; simpa using H3.out⟩
     case round =>
      clear H3
      obtain ⟨j, vN, hjg, rfl, hj⟩ := hrel
      have HJG := hide hjg
      have hj4 : j ≤ 4 := by omega
      have HJ := hide hj
      clear hjg hj
      by_cases hlj : j < 4
      ·obtain ⟨mb', mo', e', hcm⟩ := nats_at (HMT.out.keep HJ.out.bel) (k := 4 * k + j) (by have := HQ.out; omega)
       injection e' with e'
       injection e' with e1' e2'
       subst e1'
       subst e2'
       obtain ⟨y, hy⟩ : ∃ y, y = mt.getD (4 * k + j) 0 := ⟨_, rfl⟩
       have hy1 := hmt (4 * k + j)
       rw [← hy, ← Nat.add_assoc] at hcm
       rw [← hy] at hy1
       have HY := hide hy
       clear hy
       obtain ⟨e0, e1, e2, e3⟩ := box3 HJ.out.box
       have hml := shM_len gs mt k
       have htl : ((Pl.four (fun h => Pl.shf gs (mt.getD h 0)) k).take j).length ≤ 4 := by have := List.length_take_le j (Pl.four (fun h => Pl.shf gs (mt.getD h 0)) k); omega
       have hll : (shM gs mt k ++ (Pl.four (fun h => Pl.shf gs (mt.getD h 0)) k).take j).length ≤ 404 := by rw [List.length_append]; omega
       obtain ⟨l, hl⟩ : ∃ l, l = shM gs mt k ++ (Pl.four (fun h => Pl.shf gs (mt.getD h 0)) k).take j := ⟨_, rfl⟩
       rw [← hl] at hll HJ
       have HL := hide hl
       clear hl hml htl
       have hbig2 := HJ.out.big
       go_wp2_with fail
       have P1 : ∀ u ∈ [Value.int .i64 (Pl.shf gs y : Nat)], u.oneCell' = true := by simp [Value.oneCell']
       have P2 : l.length + 1 ≤ maxLen := by unfold maxLen; omega
       have P3 : (l.length + 1) * 8 ≤ 140737488355328 := by omega
       have P4 : w.heap.size + 2 ≤ (wr.alloc (.cells #[.int .i64 (Pl.shf gs y : Nat)] 3)).drew.heap.size := by simp; omega
       have P5 : (wr.alloc (.cells #[.int .i64 (Pl.shf gs y : Nat)] 3)).drew.heap.size = wr.heap.size + 1 := by simp
       have PP := hide P1
       have P5H := hide P5
       have KB := hide (show Row (wr.alloc (.cells #[.int .i64 (Pl.shf gs y : Nat)] 3)).drew (w.heap.size + 1) 24 [vS', vN, .int .i64 lp] from Row.drew (Row.alloc HJ.out.box _))
       have KM := hide (show (wr.alloc (.cells #[.int .i64 (Pl.shf gs y : Nat)] 3)).drew.ownsRow (w.heap.size + 2) 3 1 vN l.length (l.map (fun k : Nat => Value.int .i64 k)) from ((HJ.out.m.alloc _).drew))
       clear P1 P5
       have HGd : IntsAt wr.drew C r (nats gs) := IntsAt.drew (HG.out.keep HJ.out.bel)
       obtain ⟨_, kb1, _, kb3⟩ := box3 KB.out
       go_region_law
        (first
          | (refine step_append_lies _ ?_ (.tmp 45) (.tmp 49) 22 ?_ (w.heap.size + 2) 3 i0 (.int .i64 0) 1 8 Tryz.underlying22 hi0 hz0 hz1 hz2 rfl Nat.zero_lt_one vN l.length (l.map (fun k : Nat => Value.int .i64 k)) ?_ KM.out ⟨wr.heap.size, 0, none⟩ 1 1 [.int .i64 (Pl.shf gs y : Nat)] ?_ rfl (World.news_of_block (cs := #[.int .i64 (Pl.shf gs y : Nat)]) (t := 3) (fr := (0, 0)) (heap_alloc_new wr _)) PP.out Nat.zero_lt_one P2 P3 P4 (wr.heap.size + 1) P5H.out ?_
             ·rfl
             ·rfl
             ·rfl
             ·rfl
             intro g3 c3 w3 own3 grow3 at3 lt3
             obtain ⟨q0, q1, q2, q3⟩ := box3 (KB.out.grown grow3 (row_apart KB.out KM.out))
             have OWN3 := hide own3
             have GR3 := hide grow3
             have AT3 := hide at3
             clear own3 grow3 at3 q0 q2)
          | (go_simp
             go_wp2_with ((go_at_call 86); refine Calls.mono (shifted_any gs C r cr y _ ?_ (by omega) (by omega) hf) ?_; (focus (exact HGd)); rintro e w5 ⟨rfl, rfl⟩)))
       all_goals
        go_wp2
        go_roundg (gk - 1)
        case measure => have := HJG.out; omega
        case rel =>
         refine ⟨j + 1, .slice (some ⟨g3, 0, none⟩) (l.length + 1) c3, by have := HJG.out; omega, by go_num, ?_⟩
         have hh := Shk.appM (x := Pl.shf gs y) (Shk.below (HJ.out.alloc (.cells #[.int .i64 (Pl.shf gs y : Nat)] 3)) ((Below.refl _ _).drew)) OWN3.out GR3.out rfl (by simpa using AT3.out)
         rw [HL.out, HY.out, List.append_assoc, ← four_take (f := fun h => Pl.shf gs (mt.getD h 0)) k hlj, ← HL.out] at hh
         exact hh
      ·have hj44 : j = 4 := by omega
       subst hj44
       go_wp2
       go_roundg (go - 1)
       case measure => have := HKG.out; omega
       case rel =>
        refine ⟨k + 1, vS', vN, by have := HKG.out; omega, by go_num, ?_⟩
        rw [shM_stay HC.out]
        exact HJ.out
  ·obtain ⟨A2, c2, rfl⟩ := owns_slice HK.out.s
   obtain ⟨A3, c3, rfl⟩ := owns_slice HK.out.m
   obtain ⟨e0, e1, e2, e3⟩ := box3 HK.out.box
   obtain ⟨f0, f1, f2, f3⟩ := box3 HK.out.res
   have HFIN := hide (shr_fin HK.out)
   obtain rfl : k = n := by omega
   go_wp2
   refine bodyPost_ret (v := .agg #[.slice A2 (shS gs sg k).length c2, .slice A3 (shM gs mt k).length c3, .int .i64 lp]) ?_ rfl ?_
   ·obtain ⟨r0, r1, r2⟩ := HFIN.out
    simp [results, Tryz.results87, go_sem, r0, r1, r2]
   ·have e1 : shS gs sg k = Pl.shrS gs sg := by unfold shS Pl.shrS; rw [HLS.out]
    have e2 : shM gs mt k = Pl.shrM gs sg.length mt := by unfold shM Pl.shrM; rw [HLS.out]
    refine ⟨.slice A2 (shS gs sg k).length c2, .slice A3 (shM gs mt k).length c3, rfl, ?_, ?_, ?_⟩
    ·rw [← Pl.shrS_len, ← e1]
     exact ownsRow_setCell_below (ownsRow_setCell_below (ownsRow_setCell_below HK.out.s (by simp) _) (by simp) _) (by simp) _
    ·rw [← Pl.shrM_len gs sg.length mt, ← e2]
     exact ownsRow_setCell_below (ownsRow_setCell_below (ownsRow_setCell_below HK.out.m (by simp) _) (by simp) _) (by simp) _
    ·exact ((HK.out.bel.setCell (by simp) _).setCell (by simp) _).setCell (by simp) _
end Go.Proofs.YtlffopdoeobgaaaGreatDoor
end
