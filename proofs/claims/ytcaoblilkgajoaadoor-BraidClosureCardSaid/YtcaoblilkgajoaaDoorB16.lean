/-
  The texts Bw, Bx, Open, Xn, By in one.
-/
import Derived.Test.YtcaoblilkgajoaaDoorB15
import Derived.Test.YtcaoblilkgajoaaDoorB12
import Derived.BigQuiet
import Derived.Test.YtcaoblilkgajoaaDoorB14
import Derived.Test.YtcaoblilkgajoaaDoorB00
import Derived.Test.YtcaoblilkgajoaaDoorRows
import Derived.ProofKit
import Derived.OpenShut
import Derived.Deep.Slices
import Derived.Deep.Fields
import Derived.ChangeSame
import Derived.Test.YtcaoblilkgajoaaDoorB03
import Derived.ChangeSlices
import Derived.Deep.Strs
set_option linter.unusedVariables false
set_option linter.unusedSimpArgs false

section
namespace Go.Proofs.YtcaoblilkgajoaaDoor
open Go Go.RowKit
attribute [local go_sem ↓] Go.wp_at_zero Go.wp_at_succ
def rcS (ws : List Int) (i : Nat) : Nat → List Nat
  | 0 => rcK ws i
  | s + 1 => rcJ ws (rcS ws i s) i s
theorem rnext_int (ws : List Int) (hbd : ∀ x, x ∈ ws → -10 ≤ x ∧ x ≤ 10) (A : Option Addr) (n c i p : Nat) (x y : Int) (ex : x = (i : Int)) (ey : y = (p : Int)) (w : World) (hw : IntsAt w A n ws) (hn : n ≤ 200) (hi : i ≤ 1000) (hp : p ≤ 1000) :
    Calls Tryd.prog 40 #[.slice A n c, .int .i64 x, .int .i64 y] w fun e w' => e = .returned (.int .i64 (nxW ws i p)) ∧ w' = w := by
  subst ex ey
  exact rnext_any ws hbd A n c i p w hw hn hi hp
def RClPost (q : Nat) (ws : List Int) (w : World) (e : Ending) (w' : World) : Prop :=
  (∃ (S B : Option Addr) (c : Nat), e = .returned (.agg #[.slice S ws.length c, .slice B (4 * ws.length) (4 * ws.length), .int .i64 ((rcL ws q : Nat) : Int)]) ∧ IntsAt w' S ws.length (Pl.clSg ws) ∧ IntsAt w' B (4 * ws.length) (nats (rcK ws ws.length))) ∧ Below w.heap.size w w'
theorem ints_cell {W : World} {b o n j : Nat} {zs : List Int} (h : IntsAt W (some ⟨b, o, none⟩) n zs) (hj : j < n) : W.cell? ⟨b, o + j, none⟩ = some (.int .i64 (zs.getD j 0)) := by
  obtain ⟨b2, o2, e, h2⟩ := h.at_ hj
  simp only [Option.some.injEq, Addr.mk.injEq, and_true] at e
  obtain ⟨rfl, rfl⟩ := e
  exact h2
theorem rcs_start (w : World) (n : Nat) (ws : List Int) (hl : ws.length = n) :
    RCs (w.heap.size + 3) w (w.heap.size + 2) (w.heap.size + 1) (4 * n) (.slice none 0 0) [] (rcK ws 0) 0 (((w.alloc (.cells #[.slice none 0 0, .slice none 0 0, .int .i64 0] 28)).alloc (.cells (Array.replicate (4 * n) (Value.int .i64 0)) 3)).alloc (.cells #[.slice none 0 0, .slice (some ⟨w.heap.size + 1, 0, none⟩) (4 * n) (4 * n), .int .i64 0] 28)) := by
  obtain ⟨W1, h1⟩ : ∃ W1, W1 = w.alloc (.cells #[.slice none 0 0, .slice none 0 0, .int .i64 0] 28) := ⟨_, rfl⟩
  have r1 : Row W1 w.heap.size 28 [.slice none 0 0, .slice none 0 0, .int .i64 0] := by rw [h1]; exact row_at rfl
  have s1 : W1.heap.size = w.heap.size + 1 := by rw [h1]; simp
  have b1 : Below w.heap.size w W1 := by rw [h1]; exact (Below.refl _ _).alloc (Nat.le_refl _) _
  rw [← h1]
  obtain ⟨W2, h2⟩ : ∃ W2, W2 = W1.alloc (.cells (Array.replicate (4 * n) (Value.int .i64 0)) 3) := ⟨_, rfl⟩
  have m2 : IRow W2 (w.heap.size + 1) (nats (rcK ws 0)) := by
    have h := IRow.made W1 (4 * n)
    rw [← h2, s1] at h
    unfold rcK
    rw [hl]
    simpa [nats] using h
  have s2 : W2.heap.size = w.heap.size + 2 := by rw [h2]; simp [s1]
  have b2 : Below W1.heap.size W1 W2 := by rw [h2]; exact (Below.refl _ _).alloc (Nat.le_refl _) _
  rw [← h2]
  have b3 : Below W2.heap.size W2 (W2.alloc (.cells #[.slice none 0 0, .slice (some ⟨w.heap.size + 1, 0, none⟩) (4 * n) (4 * n), .int .i64 0] 28)) := (Below.refl _ _).alloc (Nat.le_refl _) _
  refine ⟨(r1.below b2).below b3, ?_, Row.below m2 b3, World.ownsRow_nil _ _ _ _, by omega, b1.trans ((b2.trans (b3.mono b2.size)).mono b1.size), by simp [s2], by rw [rcK_len, hl]⟩
  have h := row_at (W := W2) (g := w.heap.size + 2) (t := 28) (vs := [.slice none 0 0, .slice (some ⟨w.heap.size + 1, 0, none⟩) (4 * n) (4 * n), .int .i64 0]) s2.symm
  exact h
theorem rclose_fin {base : Nat} {w W : World} {gd gM m c4 lp q : Nat} {A4 : Option Addr} {ws : List Int} (K : RCs base w gd gM m (.slice A4 (Pl.clSg ws).length c4) (Pl.clSg ws) (rcK ws ws.length) lp W) (hm : m = 4 * ws.length) (hlp : lp = rcL ws q) (y0 y1 y2 : Value) :
    RClPost q ws w (.returned (.agg #[.slice A4 (Pl.clSg ws).length c4, .slice (some ⟨gM, 0, none⟩) m m, .int .i64 (lp : Int)])) (((W.setCell ⟨w.heap.size, 0, none⟩ y0).setCell ⟨w.heap.size, 1, none⟩ y1).setCell ⟨w.heap.size, 2, none⟩ y2) := by
  have hl : (Pl.clSg ws).length = ws.length := by unfold Pl.clSg; simp
  obtain ⟨l1, l2, l3⟩ := K.lo
  refine ⟨⟨A4, some ⟨gM, 0, none⟩, c4, ?_, ?_, ?_⟩, ?_⟩
  · rw [hl, hm, hlp]
  · have hlt : w.heap.size < base := by omega
    have h1 := ownsRow_setCell_below (a := ⟨w.heap.size, 0, none⟩) K.own hlt y0
    have h2 := ownsRow_setCell_below (a := ⟨w.heap.size, 1, none⟩) h1 hlt y1
    have h3 := ownsRow_setCell_below (a := ⟨w.heap.size, 2, none⟩) h2 hlt y2
    have h := (own_rowT h3).row
    rw [hl] at h
    exact h
  · have hr : IRow (((W.setCell ⟨w.heap.size, 0, none⟩ y0).setCell ⟨w.heap.size, 1, none⟩ y1).setCell ⟨w.heap.size, 2, none⟩ y2) gM (nats (rcK ws ws.length)) := Row.other (Row.other (Row.other K.mr (by show _ ≠ w.heap.size; omega) _) (by show _ ≠ w.heap.size; omega) _) (by show _ ≠ w.heap.size; omega) _
    have h4 := hr.ints
    rw [nats_len, K.lm, hm] at h4
    exact h4
  · exact ((K.bel.setCell (Nat.le_refl _) _).setCell (Nat.le_refl _) _).setCell (Nat.le_refl _) _
set_option maxRecDepth 100000 in
set_option maxHeartbeats 8000000 in
theorem rclosure_any (q : Nat) (ws : List Int) (hv : Pl.BV (q : Int) ws) (A : Option Addr) (n c : Nat) (w : World) (hw : IntsAt w A n ws) (hn : n ≤ 64) :
    Calls Tryd.prog 15 #[.int .i64 (q : Int), .slice A n c] w (RClPost q ws w) := by
  have HL := hide hw.len
  have HW := hide hw
  have HOK := hide (show ∀ x, x ∈ ws → Pl.LetOk q x from by have := hv.ok; rwa [Int.toNat_natCast] at this)
  have hq10 : q ≤ 10 := by have := hv.2.1; omega
  have HBD := hide (show ∀ x, x ∈ ws → -10 ≤ x ∧ x ≤ 10 from fun x hx => by have h1 := hv.2.2.2 x hx; omega)
  clear hw hv
  have hmk4 : ∀ W : World, (Instr.makeSlice 22 (.int .i64 (4 * (n : Int))) (.int .i64 (4 * (n : Int)))).run Tryd.prog W = .ok (.slice (some ⟨W.heap.size, 0, none⟩) (4 * n) (4 * n)) (W.alloc (.cells (Array.replicate (4 * n) (Value.int .i64 0)) 3)) := fun W => by
    have h := run_ints (4 * n) (by omega) W
    rw [show ((4 * n : Nat) : Int) = 4 * (n : Int) by omega] at h
    exact h
  have R0 := hide (row_at (W := w) (g := w.heap.size) (t := 28) (vs := [.slice none 0 0, .slice none 0 0, .int .i64 0]) rfl)
  go_enter Tryd.func15, Tryd.ntmps15
  go_upto_region 2 with fail
  obtain ⟨gd, hgd⟩ : ∃ g, g = w.heap.size + 2 := ⟨_, rfl⟩
  obtain ⟨gM, hgM⟩ : ∃ g, g = w.heap.size + 1 := ⟨_, rfl⟩
  obtain ⟨base, hbase⟩ : ∃ g, g = w.heap.size + 3 := ⟨_, rfl⟩
  obtain ⟨m, hm⟩ : ∃ m, m = 4 * n := ⟨_, rfl⟩
  have HM4 := hide hm
  obtain ⟨V0, hV0⟩ : ∃ V0, V0 = ((w.alloc (.cells #[.slice none 0 0, .slice none 0 0, .int .i64 0] 28)).alloc (.cells (Array.replicate (4 * n) (Value.int .i64 0)) 3)).alloc (.cells #[.slice none 0 0, .slice (some ⟨w.heap.size + 1, 0, none⟩) (4 * n) (4 * n), .int .i64 0] 28) := ⟨_, rfl⟩
  have K0 := hide (show RCs base w gd gM m (.slice none 0 0) [] (rcK ws 0) 0 V0 by
    rw [hV0, hgd, hgM, hbase, hm]
    exact rcs_start w n ws HL.out)
  rw [← hV0, show w.heap.size + 1 + 1 = gd by omega, ← hgM, ← hm]
  have hm256 : m ≤ 256 := by omega
  clear hV0 hgd hgM hbase hm hmk4 R0
  go_wp2_with fail
  go_loopg [6, 7, 8, 9, 10, 11, 12] n (fun g s6 s7 s8 s9 s10 s11 s12 wx => ∃ (k : Nat) (vS : Value), k + g = n ∧ s6 = .int .i64 (k : Int) ∧ RCs base w gd gM m vS (Pl.clSg (ws.take k)) (rcK ws k) 0 wx)
  case atStart => exact ⟨0, _, by omega, rfl, K0.out⟩
  case round =>
    clear K0
    obtain ⟨k, vS, hkg, rfl, hk⟩ := hrel
    have HKG := hide hkg
    have K1 := hide hk
    have hkn : k ≤ n := by omega
    clear hk hkg
    obtain ⟨go, rfl⟩ : ∃ go, go = gk := ⟨_, rfl⟩
    by_cases hk : k < n
    · have hki : (k : Int) < (n : Int) := by omega
      have k0 : (0 : Int) ≤ (k : Int) := by omega
      obtain ⟨b, o, rfl, x1⟩ := (HW.out.keep K1.out.bel).at_ hk
      obtain ⟨x, hxm, hx, hxt⟩ := letter_at HL.out hk
      rw [hx] at x1
      have hlx := HOK.out x hxm
      have hxb := HBD.out x hxm
      have hxb1 : -1000000 ≤ x ∧ x ≤ 1000000 := by omega
      have HSN := hide (show Pl.clSg (ws.take (k + 1)) = Pl.clSg (ws.take k) ++ [if x < 0 then -1 else 1] by rw [hxt]; unfold Pl.clSg; rw [List.map_append]; rfl)
      obtain ⟨sg, hsg⟩ : ∃ sg, sg = Pl.clSg (ws.take k) := ⟨_, rfl⟩
      have hsl : sg.length ≤ 64 := by rw [hsg]; unfold Pl.clSg; rw [List.length_map, List.length_take]; omega
      rw [← hsg] at K1 HSN
      have HX := hide hx
      obtain ⟨mm, hmm⟩ : ∃ m, m = x.natAbs := ⟨_, rfl⟩
      have hm1 : 1 ≤ mm := by rw [hmm]; exact hlx.1
      have hm2 : mm < q := by rw [hmm]; exact hlx.2
      have HMX := hide hmm
      clear hx hxt hxm hlx hsg hmm hxb
      obtain ⟨A4, c4, rfl⟩ := owns_slice K1.out.own
      obtain ⟨i0, hi0, hz0, hz1, hz2⟩ := info_parts intInfo
      obtain ⟨d0, d1, d2, d3⟩ := box3 K1.out.d
      have hgw : gd < wr.heap.size := K1.out.d.lt
      by_cases hx0 : x < 0
      · have KA := hide (K1.out.below ((Below.refl wr.heap.size wr).alloc (Nat.le_refl _) (.cells #[.int .i64 (-1)] 3)))
        go_upto_region 8 with fail
        go_upto_region 9 with (at_builtin; refine wpList_append_lies _ (by rfl) _ _ 22 (by rfl) base 3 i0 (.int .i64 0) 1 8 Tryd.underlying22 hi0 hz0 hz1 hz2 rfl (by omega) _ sg.length _ (by rfl) KA.out.own ⟨wr.heap.size, 0, none⟩ 1 1 [.int .i64 (-1)] (by rfl) (by rfl) (one_news _ _) (by simp [Value.oneCell']) (by omega) (by unfold maxLen; omega) (by omega) KA.out.big (wr.heap.size + 1) (by simp) ?_; intro g3 c3 w3 own3 grow3 at3 lt3; obtain ⟨e0, e1, e2, e3⟩ := box3 (KA.out.d.grown grow3 (fun e => by have h1 := (KA.out.own.lt _ e.symm).1; have h2 := KA.out.lo.2.2; omega)); have K2 := hide (KA.out.app own3 grow3); clear own3 grow3 at3)
        obtain ⟨V3, hV3⟩ : ∃ V, V = w3.setCell ⟨gd, 0, none⟩ (.slice (some ⟨g3, 0, none⟩) (sg.length + 1) c3) := ⟨_, rfl⟩
        rw [← hV3] at K2 ⊢
        have HSE := hide (show Pl.clSg (ws.take (k + 1)) = sg ++ [(-1)] by rw [HSN.out, if_pos hx0])
        rw [← HSE.out] at K2
        clear hV3 KA lt3 d0 d1 d2 d3 e0 e1 e2 e3 x1 hgw HSN K1
        obtain ⟨vT, hvT⟩ : ∃ vT : Value, vT = .slice (some ⟨g3, 0, none⟩) (sg.length + 1) c3 := ⟨_, rfl⟩
        rw [← hvT] at K2
        clear hvT
        go_wp2_with fail
        go_loopg [8, 9, 10, 11, 12] 2 (fun g s8 s9 s10 s11 s12 wx => ∃ s : Nat, s + g = 2 ∧ s8 = .int .i64 (s : Int) ∧ RCs base w gd gM m vT (Pl.clSg (ws.take (k + 1))) (rcS ws k s) 0 wx)
        case atStart => exact ⟨0, rfl, rfl, K2.out⟩
        case round =>
          clear K2
          obtain ⟨s, hsg, rfl, hs⟩ := hrel
          have HSG := hide hsg
          have K2 := hide hs
          have hs2 : s ≤ 2 := by omega
          clear hs hsg
          obtain ⟨gi, rfl⟩ : ∃ gi, gi = gk := ⟨_, rfl⟩
          by_cases hs : s < 2
          · obtain ⟨p, hp⟩ : ∃ p, p = mm - 1 + s := ⟨_, rfl⟩
            have HPD := hide hp
            have hpe : (mm : Int) - 1 + (s : Int) = (p : Int) := by omega
            have hp64 : p ≤ 1000 := by omega
            have htc : tch (ws.getD k 0) p := by
              unfold tch
              rw [HX.out, ← HMX.out]
              omega
            obtain ⟨j, hj, hnx⟩ := nxW_hit ws (by rw [HL.out]; exact hk) htc
            rw [HL.out] at hj
            have HNX := hide hnx
            have HWk := hide (HW.out.keep K2.out.bel)
            have x1 := ints_cell HWk.out hk
            have y1 := ints_cell HWk.out hj
            rw [HX.out] at x1
            obtain ⟨y, hym, hy, _⟩ := letter_at HL.out hj
            rw [hy] at y1
            have HY := hide hy
            have hyb := HBD.out y hym
            have hyb1 : -1000000 ≤ y ∧ y ≤ 1000000 := by omega
            obtain ⟨my, hmy⟩ : ∃ m, m = y.natAbs := ⟨_, rfl⟩
            have HMY := hide hmy
            obtain ⟨bs, hbs⟩ : ∃ b, b = (s == 1) := ⟨_, rfl⟩
            have HBS := hide hbs
            obtain ⟨bt, hbt⟩ : ∃ b, b = (p == my) := ⟨_, rfl⟩
            have HBT := hide hbt
            have ebs : ((s : Int) == 1) = bs := by
              rw [hbs, Bool.eq_iff_iff, beq_iff_eq, beq_iff_eq]
              omega
            have ebt : ((p : Int) == (my : Int)) = bt := by
              rw [hbt, Bool.eq_iff_iff, beq_iff_eq, beq_iff_eq]
              omega
            have j0 : (0 : Int) ≤ (j : Int) := by omega
            have j1 : (j : Int) < (n : Int) := by omega
            have hsi : (s : Int) < 2 := by omega
            have hmy10 : my ≤ 10 := by omega
            obtain ⟨sa, hsa⟩ : ∃ sa, sa = sltR x true bs := ⟨_, rfl⟩
            obtain ⟨sb, hsb⟩ : ∃ sb, sb = sltR y false bt := ⟨_, rfl⟩
            have hsa4 : sa < 4 := by rw [hsa]; exact sltR_lt _ _ _
            have hsb4 : sb < 4 := by rw [hsb]; exact sltR_lt _ _ _
            have HSA := hide hsa
            have HSB := hide hsb
            clear hp hnx hy hym hyb hmy hbs hbt hsa hsb htc
            go_wp2_with fail
            refine (rabs_any x _ hxb1).mono ?_
            rintro e w2 ⟨rfl, rfl⟩
            rw [← HMX.out]
            go_wp2_with fail
            refine (rnext_int ws HBD.out _ n c (k + 1) p _ _ (by omega) (by first | rfl | exact hpe) _ HWk.out (by omega) (by omega) hp64).mono ?_
            rintro e w2 ⟨rfl, rfl⟩
            rw [HNX.out]
            clear hpe
            go_wp2_with fail
            refine (rslot_any x true _ _).mono ?_
            rintro e w2 ⟨rfl, rfl⟩
            rw [← HSA.out]
            go_upto_region 15 with fail
            go_quiet (first | (go_at_call 39; exact Calls.quiet_of_same (rabs_any y _ hyb1)) | (go_at_call 41; exact Calls.quiet_of_same (rslot_any y false _ _)))
            go_upto_region 16 with fail
            rw [← HMY.out, ebt, ← HSB.out, show wrap64 (4 * (j : Int) + (sb : Int)) = ((4 * j + sb : Nat) : Int) by unfold wrap64; omega, show 4 * (k : Int) + (sa : Int) = ((4 * k + sa : Nat) : Int) by omega]
            have hm4 := HM4.out
            obtain ⟨a, ha⟩ : ∃ a, a = 4 * k + sa := ⟨_, rfl⟩
            obtain ⟨d, hd⟩ : ∃ d, d = 4 * j + sb := ⟨_, rfl⟩
            rw [← ha, ← hd]
            have ham : a < m := by omega
            have hdm : d < m := by omega
            have HE := hide (show rcS ws k (s + 1) = Pl.jnn (rcS ws k s) a d by
              show rcJ ws (rcS ws k s) k s = _
              unfold rcJ
              simp only [HX.out]
              rw [← HMX.out, ← HPD.out, HNX.out, Int.toNat_natCast, HY.out, ← HMY.out, ← HBS.out, ← HBT.out, ← HSA.out, ← HSB.out, ← ha, ← hd])
            have KD := hide (K2.out.below (below_drewN (Below.refl _ _) nq))
            clear ha hd hm4 x1 y1 ebt ebs hyb1 hk hs
            obtain ⟨WD, hWD⟩ : ∃ W, W = w2.drewN nq := ⟨_, rfl⟩
            rw [← hWD] at KD ⊢
            clear hWD
            obtain ⟨d0, d1, d2, d3⟩ := box3 KD.out.d
            have q1 := IRow.cell KD.out.mr (i := a) (by rw [nats_len, KD.out.lm]; exact ham)
            have q2 := IRow.cell KD.out.mr (i := d) (by rw [nats_len, KD.out.lm]; exact hdm)
            have f1 := Row.free KD.out.mr
            have q3 := IRow.cell (KD.out.setM a d).mr (i := d) (by rw [nats_len, (KD.out.setM a d).lm]; exact hdm)
            have q4 := IRow.cell (KD.out.setM d a).mr (i := a) (by rw [nats_len, (KD.out.setM d a).lm]; exact ham)
            obtain ⟨_, e1, _, _⟩ := box3 (KD.out.setM a d).d
            obtain ⟨_, e2, _, _⟩ := box3 (KD.out.setM d a).d
            have a0 : (0 : Int) ≤ (a : Int) := by omega
            have a1 : (a : Int) < (m : Int) := by omega
            have b0 : (0 : Int) ≤ (d : Int) := by omega
            have b1 : (d : Int) < (m : Int) := by omega
            go_region
            all_goals (go_wp2_with fail)
            all_goals (go_roundg (gi - 1))
            case measure => have := HSG.out; omega
            case rel =>
              refine ⟨s + 1, by have := HSG.out; omega, by go_num, ?_⟩
              rw [HE.out]
              exact ((KD.out.setM a d).setM d a).below (Below.refl _ _).drew
          · have hsi : ¬ ((s : Int) < 2) := by omega
            have K3 := hide (show RCs base w gd gM m vT (Pl.clSg (ws.take (k + 1))) (rcK ws (k + 1)) 0 wr by
              have h := K2.out
              rw [show s = 2 by omega] at h
              exact h)
            clear K2
            go_wp2_with fail
            go_roundg (go - 1)
            case measure => have := HKG.out; omega
            case rel => exact ⟨k + 1, _, by have := HKG.out; omega, by go_num, K3.out⟩
      · have KA := hide (K1.out.below ((Below.refl wr.heap.size wr).alloc (Nat.le_refl _) (.cells #[.int .i64 1] 3)))
        go_upto_region 8 with fail
        go_upto_region 9 with (at_builtin; refine wpList_append_lies _ (by rfl) _ _ 22 (by rfl) base 3 i0 (.int .i64 0) 1 8 Tryd.underlying22 hi0 hz0 hz1 hz2 rfl (by omega) _ sg.length _ (by rfl) KA.out.own ⟨wr.heap.size, 0, none⟩ 1 1 [.int .i64 1] (by rfl) (by rfl) (one_news _ _) (by simp [Value.oneCell']) (by omega) (by unfold maxLen; omega) (by omega) KA.out.big (wr.heap.size + 1) (by simp) ?_; intro g3 c3 w3 own3 grow3 at3 lt3; obtain ⟨e0, e1, e2, e3⟩ := box3 (KA.out.d.grown grow3 (fun e => by have h1 := (KA.out.own.lt _ e.symm).1; have h2 := KA.out.lo.2.2; omega)); have K2 := hide (KA.out.app own3 grow3); clear own3 grow3 at3)
        obtain ⟨V3, hV3⟩ : ∃ V, V = w3.setCell ⟨gd, 0, none⟩ (.slice (some ⟨g3, 0, none⟩) (sg.length + 1) c3) := ⟨_, rfl⟩
        rw [← hV3] at K2 ⊢
        have HSE := hide (show Pl.clSg (ws.take (k + 1)) = sg ++ [1] by rw [HSN.out, if_neg hx0])
        rw [← HSE.out] at K2
        clear hV3 KA lt3 d0 d1 d2 d3 e0 e1 e2 e3 x1 hgw HSN K1
        obtain ⟨vT, hvT⟩ : ∃ vT : Value, vT = .slice (some ⟨g3, 0, none⟩) (sg.length + 1) c3 := ⟨_, rfl⟩
        rw [← hvT] at K2
        clear hvT
        go_wp2_with fail
        go_loopg [8, 9, 10, 11, 12] 2 (fun g s8 s9 s10 s11 s12 wx => ∃ s : Nat, s + g = 2 ∧ s8 = .int .i64 (s : Int) ∧ RCs base w gd gM m vT (Pl.clSg (ws.take (k + 1))) (rcS ws k s) 0 wx)
        case atStart => exact ⟨0, rfl, rfl, K2.out⟩
        case round =>
          clear K2
          obtain ⟨s, hsg, rfl, hs⟩ := hrel
          have HSG := hide hsg
          have K2 := hide hs
          have hs2 : s ≤ 2 := by omega
          clear hs hsg
          obtain ⟨gi, rfl⟩ : ∃ gi, gi = gk := ⟨_, rfl⟩
          by_cases hs : s < 2
          · obtain ⟨p, hp⟩ : ∃ p, p = mm - 1 + s := ⟨_, rfl⟩
            have HPD := hide hp
            have hpe : (mm : Int) - 1 + (s : Int) = (p : Int) := by omega
            have hp64 : p ≤ 1000 := by omega
            have htc : tch (ws.getD k 0) p := by
              unfold tch
              rw [HX.out, ← HMX.out]
              omega
            obtain ⟨j, hj, hnx⟩ := nxW_hit ws (by rw [HL.out]; exact hk) htc
            rw [HL.out] at hj
            have HNX := hide hnx
            have HWk := hide (HW.out.keep K2.out.bel)
            have x1 := ints_cell HWk.out hk
            have y1 := ints_cell HWk.out hj
            rw [HX.out] at x1
            obtain ⟨y, hym, hy, _⟩ := letter_at HL.out hj
            rw [hy] at y1
            have HY := hide hy
            have hyb := HBD.out y hym
            have hyb1 : -1000000 ≤ y ∧ y ≤ 1000000 := by omega
            obtain ⟨my, hmy⟩ : ∃ m, m = y.natAbs := ⟨_, rfl⟩
            have HMY := hide hmy
            obtain ⟨bs, hbs⟩ : ∃ b, b = (s == 1) := ⟨_, rfl⟩
            have HBS := hide hbs
            obtain ⟨bt, hbt⟩ : ∃ b, b = (p == my) := ⟨_, rfl⟩
            have HBT := hide hbt
            have ebs : ((s : Int) == 1) = bs := by
              rw [hbs, Bool.eq_iff_iff, beq_iff_eq, beq_iff_eq]
              omega
            have ebt : ((p : Int) == (my : Int)) = bt := by
              rw [hbt, Bool.eq_iff_iff, beq_iff_eq, beq_iff_eq]
              omega
            have j0 : (0 : Int) ≤ (j : Int) := by omega
            have j1 : (j : Int) < (n : Int) := by omega
            have hsi : (s : Int) < 2 := by omega
            have hmy10 : my ≤ 10 := by omega
            obtain ⟨sa, hsa⟩ : ∃ sa, sa = sltR x true bs := ⟨_, rfl⟩
            obtain ⟨sb, hsb⟩ : ∃ sb, sb = sltR y false bt := ⟨_, rfl⟩
            have hsa4 : sa < 4 := by rw [hsa]; exact sltR_lt _ _ _
            have hsb4 : sb < 4 := by rw [hsb]; exact sltR_lt _ _ _
            have HSA := hide hsa
            have HSB := hide hsb
            clear hp hnx hy hym hyb hmy hbs hbt hsa hsb htc
            go_wp2_with fail
            refine (rabs_any x _ hxb1).mono ?_
            rintro e w2 ⟨rfl, rfl⟩
            rw [← HMX.out]
            go_wp2_with fail
            refine (rnext_int ws HBD.out _ n c (k + 1) p _ _ (by omega) (by first | rfl | exact hpe) _ HWk.out (by omega) (by omega) hp64).mono ?_
            rintro e w2 ⟨rfl, rfl⟩
            rw [HNX.out]
            clear hpe
            go_wp2_with fail
            refine (rslot_any x true _ _).mono ?_
            rintro e w2 ⟨rfl, rfl⟩
            rw [← HSA.out]
            go_upto_region 15 with fail
            go_quiet (first | (go_at_call 39; exact Calls.quiet_of_same (rabs_any y _ hyb1)) | (go_at_call 41; exact Calls.quiet_of_same (rslot_any y false _ _)))
            go_upto_region 16 with fail
            rw [← HMY.out, ebt, ← HSB.out, show wrap64 (4 * (j : Int) + (sb : Int)) = ((4 * j + sb : Nat) : Int) by unfold wrap64; omega, show 4 * (k : Int) + (sa : Int) = ((4 * k + sa : Nat) : Int) by omega]
            have hm4 := HM4.out
            obtain ⟨a, ha⟩ : ∃ a, a = 4 * k + sa := ⟨_, rfl⟩
            obtain ⟨d, hd⟩ : ∃ d, d = 4 * j + sb := ⟨_, rfl⟩
            rw [← ha, ← hd]
            have ham : a < m := by omega
            have hdm : d < m := by omega
            have HE := hide (show rcS ws k (s + 1) = Pl.jnn (rcS ws k s) a d by
              show rcJ ws (rcS ws k s) k s = _
              unfold rcJ
              simp only [HX.out]
              rw [← HMX.out, ← HPD.out, HNX.out, Int.toNat_natCast, HY.out, ← HMY.out, ← HBS.out, ← HBT.out, ← HSA.out, ← HSB.out, ← ha, ← hd])
            have KD := hide (K2.out.below (below_drewN (Below.refl _ _) nq))
            clear ha hd hm4 x1 y1 ebt ebs hyb1 hk hs
            obtain ⟨WD, hWD⟩ : ∃ W, W = w2.drewN nq := ⟨_, rfl⟩
            rw [← hWD] at KD ⊢
            clear hWD
            obtain ⟨d0, d1, d2, d3⟩ := box3 KD.out.d
            have q1 := IRow.cell KD.out.mr (i := a) (by rw [nats_len, KD.out.lm]; exact ham)
            have q2 := IRow.cell KD.out.mr (i := d) (by rw [nats_len, KD.out.lm]; exact hdm)
            have f1 := Row.free KD.out.mr
            have q3 := IRow.cell (KD.out.setM a d).mr (i := d) (by rw [nats_len, (KD.out.setM a d).lm]; exact hdm)
            have q4 := IRow.cell (KD.out.setM d a).mr (i := a) (by rw [nats_len, (KD.out.setM d a).lm]; exact ham)
            obtain ⟨_, e1, _, _⟩ := box3 (KD.out.setM a d).d
            obtain ⟨_, e2, _, _⟩ := box3 (KD.out.setM d a).d
            have a0 : (0 : Int) ≤ (a : Int) := by omega
            have a1 : (a : Int) < (m : Int) := by omega
            have b0 : (0 : Int) ≤ (d : Int) := by omega
            have b1 : (d : Int) < (m : Int) := by omega
            go_region
            all_goals (go_wp2_with fail)
            all_goals (go_roundg (gi - 1))
            case measure => have := HSG.out; omega
            case rel =>
              refine ⟨s + 1, by have := HSG.out; omega, by go_num, ?_⟩
              rw [HE.out]
              exact ((KD.out.setM a d).setM d a).below (Below.refl _ _).drew
          · have hsi : ¬ ((s : Int) < 2) := by omega
            have K3 := hide (show RCs base w gd gM m vT (Pl.clSg (ws.take (k + 1))) (rcK ws (k + 1)) 0 wr by
              have h := K2.out
              rw [show s = 2 by omega] at h
              exact h)
            clear K2
            go_wp2_with fail
            go_roundg (go - 1)
            case measure => have := HKG.out; omega
            case rel => exact ⟨k + 1, _, by have := HKG.out; omega, by go_num, K3.out⟩
    · have hki : ¬ ((k : Int) < (n : Int)) := by omega
      have HKN := hide (show k = n by omega)
      have HT := hide (show ws.take k = ws from List.take_of_length_le (by have := HL.out; omega))
      have K2 := hide (show RCs base w gd gM m vS (Pl.clSg ws) (rcK ws ws.length) (rcL ws 0) wr from by
        have h := K1.out
        rw [HT.out, HKN.out, ← HL.out] at h
        exact h)
      clear K1 HT hk
      go_wp2_with fail
      clear hki HKG HKN hkn
      go_loopg [13] q (fun g s13 wx => ∃ p : Nat, p + g = q ∧ s13 = .int .i64 (p : Int) ∧ RCs base w gd gM m vS (Pl.clSg ws) (rcK ws ws.length) (rcL ws p) wx)
      case atStart => exact ⟨0, by omega, rfl, K2.out⟩
      case round =>
        clear K2
        obtain ⟨p, hpg, rfl, hp⟩ := hrel
        have HPG := hide hpg
        have K1 := hide hp
        have hpq : p ≤ q := by omega
        clear hp hpg
        obtain ⟨gi, rfl⟩ : ∃ gi, gi = gk := ⟨_, rfl⟩
        obtain ⟨lp, hlp⟩ : ∃ lp, lp = rcL ws p := ⟨_, rfl⟩
        have hlpb : lp ≤ p := by rw [hlp]; exact rcL_le ws p
        rw [← hlp] at K1
        have HLP := hide hlp
        have HWk := hide (HW.out.keep K1.out.bel)
        clear hlp
        by_cases hp : p < q
        · have hpi : (p : Int) < (q : Int) := by omega
          obtain ⟨nx, hnx⟩ : ∃ nx, nx = nxW ws 0 p := ⟨_, rfl⟩
          have HNX := hide hnx
          obtain ⟨d0, d1, d2, d3⟩ := box3 K1.out.d
          clear hnx
          go_wp2_with fail
          refine (rnext_int ws HBD.out A n c 0 p _ _ rfl rfl _ HWk.out (by omega) (by omega) (by omega)).mono ?_
          rintro e w2 ⟨rfl, rfl⟩
          rw [← HNX.out]
          by_cases h0 : nx < 0
          · have HE := hide (show rcL ws (p + 1) = lp + 1 by
              show rcL ws p + (if nxW ws 0 p < 0 then 1 else 0) = _
              rw [← HNX.out, if_pos h0, ← HLP.out])
            go_wp2_with fail
            go_roundg (gi - 1)
            case measure => have := HPG.out; omega
            case rel => exact ⟨p + 1, by have := HPG.out; omega, by go_num, by
              rw [HE.out]
              have h := K1.out.setD (lp + 1)
              rw [show (((lp + 1 : Nat)) : Int) = (lp : Int) + 1 by omega] at h
              exact h⟩
          · have HE := hide (show rcL ws (p + 1) = lp by
              show rcL ws p + (if nxW ws 0 p < 0 then 1 else 0) = _
              rw [← HNX.out, if_neg h0, ← HLP.out]
              rfl)
            go_wp2_with fail
            go_roundg (gi - 1)
            case measure => have := HPG.out; omega
            case rel => exact ⟨p + 1, by have := HPG.out; omega, by go_num, by
              rw [HE.out]
              exact K1.out⟩
        · have hpi : ¬ ((p : Int) < (q : Int)) := by omega
          have HPQ := hide (show p = q by omega)
          obtain ⟨d0, d1, d2, d3⟩ := box3 K1.out.d
          obtain ⟨A4, c4, rfl⟩ := owns_slice K1.out.own
          have R4 := hide (row3 K1.out.r rfl (.slice A4 (Pl.clSg ws).length c4) (.slice (some ⟨gM, 0, none⟩) m m) (.int .i64 (lp : Int)))
          obtain ⟨r0, r1, r2, r3⟩ := box3 K1.out.r
          obtain ⟨t0, t1, t2, t3⟩ := box3 R4.out
          go_wp2
          refine bodyPost_ret (v := .agg #[.slice A4 (Pl.clSg ws).length c4, .slice (some ⟨gM, 0, none⟩) m m, .int .i64 (lp : Int)]) (by simp [results, Tryd.results15, go_sem, t0, t1, t2]) rfl ?_
          exact rclose_fin K1.out (by rw [HM4.out, HL.out]) (by rw [HLP.out, HPQ.out]) _ _ _
end Go.Proofs.YtcaoblilkgajoaaDoor
end

section
namespace Go.Proofs.YtcaoblilkgajoaaDoor
open Go Go.RowKit
attribute [local go_sem ↓] Go.wp_at_zero Go.wp_at_succ
theorem rcK_same (ws : List Int) : ∀ i, rcK ws i = Pl.rcK ws i
  | 0 => rfl
  | i + 1 => by
    show rcJ ws (rcJ ws (rcK ws i) i 0) i 1 = Pl.rcJ ws (Pl.rcJ ws (Pl.rcK ws i) i 0) i 1
    rw [rcK_same ws i]
    have hF : ∀ (i p : Nat) f k, nxF ws i p f k = Pl.nxF ws i p f k := by
      intro i p f
      induction f with
      | zero => intro k; rfl
      | succ f ih =>
        intro k
        show (if tch (ws.getD ((i + k) % ws.length) 0) p then _ else _) = (if Pl.tcp (ws.getD ((i + k) % ws.length) 0) p then _ else _)
        rw [ih]
        rfl
    have hJ : ∀ (mt : List Nat) (i s : Nat), rcJ ws mt i s = Pl.rcJ ws mt i s := by
      intro mt i s
      unfold rcJ Pl.rcJ
      have hN : nxW ws (i + 1) ((ws.getD i 0).natAbs - 1 + s) = Pl.nxW ws (i + 1) ((ws.getD i 0).natAbs - 1 + s) := hF _ _ _ _
      dsimp only
      rw [hN]
      rfl
    rw [hJ, hJ]
theorem rcL_same (ws : List Int) : ∀ p, rcL ws p = Pl.rcL ws p
  | 0 => rfl
  | p + 1 => by
    have hF : ∀ (i p : Nat) f k, nxF ws i p f k = Pl.nxF ws i p f k := by
      intro i p f
      induction f with
      | zero => intro k; rfl
      | succ f ih =>
        intro k
        show (if tch (ws.getD ((i + k) % ws.length) 0) p then _ else _) = (if Pl.tcp (ws.getD ((i + k) % ws.length) 0) p then _ else _)
        rw [ih]
        rfl
    show rcL ws p + (if nxW ws 0 p < 0 then 1 else 0) = Pl.rcL ws p + (if Pl.nxW ws 0 p < 0 then 1 else 0)
    rw [rcL_same ws p, show nxW ws 0 p = Pl.nxW ws 0 p from hF _ _ _ _]
set_option maxRecDepth 100000 in
set_option maxHeartbeats 2000000 in
theorem requal_yes (xs ys : List Int) (l : Int) (A B A2 B2 : Option Addr) (n m c d c2 d2 : Nat) (w : World) (hx : IntsAt w A n xs) (hy : IntsAt w B m ys) (hx2 : IntsAt w A2 n xs) (hy2 : IntsAt w B2 m ys) (hn : n ≤ 100000) (hm : m ≤ 100000) :
    Calls Tryd.prog 14 #[.agg #[.slice A n c, .slice B m d, .int .i64 l], .agg #[.slice A2 n c2, .slice B2 m d2, .int .i64 l]] w fun e w' => e = .returned (.bool true) ∧ Below w.heap.size w w' := by
  have HX := hide hx
  have HY := hide hy
  have HX2 := hide hx2
  have HY2 := hide hy2
  clear hx hy hx2 hy2
  have X1 := hide ((row_at (W := w) (g := w.heap.size) (t := 28) (vs := [.slice A n c, .slice B m d, .int .i64 l]) rfl).below ((Below.refl _ _).alloc (Nat.le_refl _) (.cells #[.slice A2 n c2, .slice B2 m d2, .int .i64 l] 28)))
  have Y1 := hide (row_at (W := w.alloc (.cells #[.slice A n c, .slice B m d, .int .i64 l] 28)) (g := w.heap.size + 1) (t := 28) (vs := [.slice A2 n c2, .slice B2 m d2, .int .i64 l]) (by simp))
  have B0 := hide (show Below w.heap.size w ((w.alloc (.cells #[.slice A n c, .slice B m d, .int .i64 l] 28)).alloc (.cells #[.slice A2 n c2, .slice B2 m d2, .int .i64 l] 28)) from ((Below.refl _ _).alloc (Nat.le_refl _) _).alloc (by simp) _)
  obtain ⟨d0, d1, d2', d3⟩ := box3 X1.out
  obtain ⟨e0, e1, e2, e3⟩ := box3 Y1.out
  go_enter Tryd.func14, Tryd.ntmps14
  go_wp2_with fail
  refine (rints_any xs xs A A2 n n c c2 _ (HX.out.keep B0.out) (HX2.out.keep B0.out) hn hn).mono ?_
  rintro e w1 ⟨rfl, hb1⟩
  rw [Pl.vb_true rfl]
  have B1 := hide (B0.out.trans (hb1.mono B0.out.size))
  have X2 := hide (X1.out.below hb1)
  have Y2 := hide (Y1.out.below hb1)
  clear hb1 d0 d1 d2' d3 e0 e1 e2 e3 X1 Y1
  obtain ⟨d0, d1, d2', d3⟩ := box3 X2.out
  obtain ⟨e0, e1, e2, e3⟩ := box3 Y2.out
  go_wp2_with fail
  refine (rints_any ys ys B B2 m m d d2 _ (HY.out.keep B1.out) (HY2.out.keep B1.out) hm hm).mono ?_
  rintro e w2 ⟨rfl, hb2⟩
  rw [Pl.vb_true rfl]
  have B2 := hide (B1.out.trans (hb2.mono B1.out.size))
  have X3 := hide (X2.out.below hb2)
  have Y3 := hide (Y2.out.below hb2)
  clear hb2 d0 d1 d2' d3 e0 e1 e2 e3 X2 Y2
  obtain ⟨d0, d1, d2', d3⟩ := box3 X3.out
  obtain ⟨e0, e1, e2, e3⟩ := box3 Y3.out
  go_wp2
  go_ret
  exact ⟨rfl, B2.out⟩
theorem rcl_for (q : Nat) (ws : List Int) (hv : Pl.BV (q : Int) ws) (A : Option Addr) (n c lp : Nat) (hlp : lp = (Pl.clD q ws).lp) (w : World) (hw : IntsAt w A n ws) (hn : n ≤ 64) :
    Calls Tryd.prog 15 #[.int .i64 (q : Int), .slice A n c] w fun e w' => ∃ (S B : Option Addr) (c2 : Nat), e = .returned (.agg #[.slice S ws.length c2, .slice B (4 * ws.length) (4 * ws.length), .int .i64 (lp : Int)]) ∧ IntsAt w' S ws.length (Pl.clSg ws) ∧ IntsAt w' B (4 * ws.length) (nats (Pl.clD q ws).mt) ∧ Below w.heap.size w w' := by
  have hr := Pl.clD_ref (n := q) (ws := ws) (by have := hv.wok; rwa [Int.toNat_natCast] at this)
  refine (rclosure_any q ws hv A n c w hw hn).mono ?_
  rintro e w' ⟨⟨S, B, c2, he, h1, h2⟩, hb⟩
  refine ⟨S, B, c2, ?_, h1, ?_, hb⟩
  · rw [he, hlp, hr, rcL_same]
  · rw [hr, ← rcK_same]
    exact h2
set_option maxRecDepth 100000 in
set_option maxHeartbeats 4000000 in
theorem braidClosure_walk (s : Int) (ws : List Int) (A : Option Addr) (n c : Nat) (w : World) (hw : IntsAt w A n ws) (hn : n ≤ maxLen) (hg : GV w) (hw0 : 0 < w.heap.size) :
    Calls Tryd.prog 3 #[.agg #[.int .i64 s, .slice A n c]] w fun e w' => e = .returned (.bool true) ∧ Below w.heap.size w w' := by
  have HG := hide hg
  have HW := hide hw
  have HN := hide hn
  unfold maxLen at hn
  clear hg hw
  have X0 := hide (row_at (W := w) (g := w.heap.size) (t := 24) (vs := [.int .i64 s, .slice A n c]) rfl)
  have B0 := hide (show Below w.heap.size w (w.alloc (.cells #[.int .i64 s, .slice A n c] 24)) from (Below.refl _ _).alloc (Nat.le_refl _) _)
  have S0 := hide (show 0 < (w.alloc (.cells #[.int .i64 s, .slice A n c] 24)).heap.size by simp)
  go_enter Tryd.func3, Tryd.ntmps3
  go_wp2_with fail
  refine (awake33 _ (HG.out.below B0.out) S0.out).mono ?_
  rintro e w1 ⟨rfl, hb1⟩
  have B1 := hide (B0.out.trans (hb1.mono B0.out.size))
  have X1 := hide (X0.out.below hb1)
  clear hb1 X0 B0 S0
  obtain ⟨d0, d1, d2⟩ := box2b X1.out
  go_wp2_with fail
  refine (great33 s A n c _ HN.out).mono ?_
  rintro e w2 ⟨rfl, hb2⟩
  have B2 := hide (B1.out.trans (hb2.mono B1.out.size))
  have X2 := hide (X1.out.below hb2)
  clear hb2 X1 B1 d0 d1 d2
  obtain ⟨d0, d1, d2⟩ := box2b X2.out
  by_cases h30 : 30 < n
  · rw [show decide (30 < n) = true by simp [h30]]
    go_wp2
    go_ret
    exact ⟨rfl, B2.out⟩
  · rw [show decide (30 < n) = false by simp [h30]]
    go_wp2_with fail
    refine (closure_any s ws A n c _ (HW.out.keep B2.out) (by omega)).mono ?_
    rintro e w3 ⟨hp1, hp2, hb3⟩
    have B3 := hide (B2.out.trans (hb3.mono B2.out.size))
    have X3 := hide (X2.out.below hb3)
    clear hb3 X2 B2 d0 d1 d2
    by_cases hv : Pl.BV s ws
    · obtain ⟨S, M, c3, rfl, hD⟩ := hp2 hv
      have HD := hide hD
      have HV := hide hv
      clear hp1 hp2 hD
      obtain ⟨q, hq⟩ : ∃ q : Nat, s = (q : Int) := ⟨s.toNat, by have := hv.1; omega⟩
      subst hq
      rw [Int.toNat_natCast] at HD ⊢
      have HL := hide HW.out.len
      obtain ⟨lp, hlp⟩ : ∃ lp, lp = (Pl.clD q ws).lp := ⟨_, rfl⟩
      have HLP := hide hlp
      rw [← hlp]
      clear hv hlp
      have X4 := hide (X3.out.below ((Below.refl w3.heap.size w3).alloc (Nat.le_refl _) (.cells #[.slice S ws.length c3, .slice M (4 * ws.length) (4 * ws.length), .int .i64 (lp : Int)] 28)))
      have D4 := hide (row_at (W := w3) (g := w3.heap.size) (t := 28) (vs := [.slice S ws.length c3, .slice M (4 * ws.length) (4 * ws.length), .int .i64 (lp : Int)]) rfl)
      have B4 := hide (B3.out.alloc B3.out.size (.cells #[.slice S ws.length c3, .slice M (4 * ws.length) (4 * ws.length), .int .i64 (lp : Int)] 28))
      have HD4 := hide (HD.out.keep ((Below.refl w3.heap.size w3).alloc (Nat.le_refl _) (.cells #[.slice S ws.length c3, .slice M (4 * ws.length) (4 * ws.length), .int .i64 (lp : Int)] 28)))
      obtain ⟨d0, d1, d2⟩ := box2b X4.out
      go_wp2_with fail
      refine (rvalidB_any (q : Int) ws A n c _ (HW.out.keep B4.out) HN.out).mono ?_
      rintro e w5 ⟨rfl, rfl⟩
      rw [Pl.vb_true HV.out]
      have hcl : (Pl.clSg ws).length = ws.length := by unfold Pl.clSg; simp
      obtain ⟨V, hV⟩ : ∃ V, V = w3.alloc (.cells #[.slice S ws.length c3, .slice M (4 * ws.length) (4 * ws.length), .int .i64 (lp : Int)] 28) := ⟨_, rfl⟩
      have hSD := hide (show IntsAt V.drew S ws.length (Pl.clSg ws) from by
        have h := (HD4.out.keep (Below.refl _ _).drew).1
        rw [← hV] at h
        rw [← hcl]
        exact h)
      have hMD := hide (show IntsAt V.drew M (4 * ws.length) (nats (Pl.clD q ws).mt) from by
        have h := (HD4.out.keep (Below.refl _ _).drew).2
        rw [← hV] at h
        rw [← hcl]
        exact h)
      rw [← hV] at X4 D4 B4 ⊢
      have hXDr := hide (X4.out.below (Below.refl V.heap.size V).drew)
      have hDDr := hide (D4.out.below (Below.refl V.heap.size V).drew)
      have hBDr := hide B4.out.drew
      have hWD := hide (HW.out.keep hBDr.out)
      have hn64 : n ≤ 64 := by omega
      have hn4 : 4 * ws.length ≤ 100000 := by have := HL.out; omega
      have hn1 : ws.length ≤ 100000 := by have := HL.out; omega
      clear hV HD4 HD hcl d0 d1 d2
      obtain ⟨d0, d1, d2⟩ := box2b X4.out
      obtain ⟨e0, e1, e2, e3⟩ := box3 D4.out
      go_upto_region 8 with fail
      go_region_held3 (fun w' => w'.cell? ⟨w.heap.size, 0, none⟩ = some (.int .i64 (q : Int)) ∧ w'.cell? ⟨w.heap.size, 1, none⟩ = some (.slice A n c) ∧ w'.cell? ⟨w3.heap.size, 0, none⟩ = some (.slice S ws.length c3) ∧ w'.cell? ⟨w3.heap.size, 1, none⟩ = some (.slice M (4 * ws.length) (4 * ws.length)) ∧ w'.cell? ⟨w3.heap.size, 2, none⟩ = some (.int .i64 (lp : Int)))
        (first | go_keep | assumption | (exact ⟨k0, k1, p0, p1, p2⟩))
        (first
        | (go_at_call 14
           have hx := hb5
           refine Calls.mono (requal_yes (Pl.clSg ws) (nats (Pl.clD q ws).mt) (lp : Int) S M S5 M5 ws.length (4 * ws.length) c3 (4 * ws.length) c5 (4 * ws.length) _ (hSD.out.keep hx) (hMD.out.keep hx) hS5 hM5 hn1 hn4) ?_
           rintro e w6 ⟨rfl, hb6⟩
           obtain ⟨k0, k1, k2⟩ := box2b ((hXDr.out.below hx).below hb6)
           obtain ⟨p0, p1, p2, p3⟩ := box3 ((hDDr.out.below hx).below hb6)
           have HF := hide (hBDr.out.trans ((hx.trans (hb6.mono hx.size)).mono hBDr.out.size)))
        | (go_at_call 15
           refine Calls.mono (rcl_for q ws HV.out A n c lp HLP.out _ hWD.out hn64) ?_
           rintro e w5 ⟨S5, M5, c5, rfl, hS5, hM5, hb5⟩
           obtain ⟨k0, k1, k2⟩ := box2b (hXDr.out.below hb5)
           obtain ⟨p0, p1, p2, p3⟩ := box3 (hDDr.out.below hb5)))
      all_goals (go_wp2_with fail)
      all_goals (go_ret; exact ⟨rfl, HF.out⟩)
    · obtain rfl := hp1 hv
      have HV := hide hv
      clear hp1 hp2 hv
      have X4 := hide (X3.out.below ((Below.refl w3.heap.size w3).alloc (Nat.le_refl _) (.cells #[.slice none 0 0, .slice none 0 0, .int .i64 0] 28)))
      have D4 := hide (row_at (W := w3) (g := w3.heap.size) (t := 28) (vs := [.slice none 0 0, .slice none 0 0, .int .i64 0]) rfl)
      have B4 := hide (B3.out.alloc B3.out.size (.cells #[.slice none 0 0, .slice none 0 0, .int .i64 0] 28))
      obtain ⟨d0, d1, d2⟩ := box2b X4.out
      go_wp2_with fail
      refine (rvalidB_any s ws A n c _ (HW.out.keep B4.out) HN.out).mono ?_
      rintro e w5 ⟨rfl, rfl⟩
      rw [Pl.vb_false HV.out]
      obtain ⟨e0, e1, e2, e3⟩ := box3 D4.out
      go_wp2_with fail
      refine (requal_yes [] [] 0 none none none none 0 0 0 0 0 0 _ (RowAt.nil _) (RowAt.nil _) (RowAt.nil _) (RowAt.nil _) (by omega) (by omega)).mono ?_
      rintro e w6 ⟨rfl, hb6⟩
      have B6 := hide (B4.out.trans (hb6.mono B4.out.size))
      go_wp2
      go_ret
      exact ⟨rfl, B6.out⟩
end Go.Proofs.YtcaoblilkgajoaaDoor
end

section
namespace Go.Proofs.YtcaoblilkgajoaaDoor
open Go.ChangeShapes Go.WideShapes Go.ChangeAt Go.RowKit Go.Deep
section
variable {H : Type} {enc : TypeId × Value → H} {P : Program} {w : World} {base : Nat} {spare : Nat → Bool} {held : Bool}
theorem post_of_below {f : Func} {s : ChangeSpec} {apart fresh handsOn again : Bool} {W W' : World} {args : Array Value} {v : Value} {ds gs : List (DataW H)} {before pa pv : List MemPlace}
    (hW : DataW.Whole enc P f.params.toList s.vars apart W args.toList ds gs before)
    (hres : ∀ (b : Nat) (sp : Nat → Bool) (hd : Bool), DataW.TrodAll enc P W' b sp hd f.resultTypes.toList (v.resultList f.resultTypes.size) (s.fn H (ds ++ gs)).results [])
    (hargs : ∀ sp : Nat → Bool, (∀ p ∈ before, sp p.block = true) → DataW.TrodAll enc P W' 0 sp true f.params.toList args.toList (s.fn H (ds ++ gs)).args pa)
    (hvars : ∀ sp : Nat → Bool, (∀ p ∈ before, sp p.block = true) → DataW.TrodVars enc P W' sp s.vars (s.fn H (ds ++ gs)).vars pv)
    (hps : before = pa ++ pv) (hb : Below W.heap.size W W')
    (hok : ∀ (j : Nat) (t : TypeId) (r : Value), f.resultTypes[j]? = some t → (v.resultList f.resultTypes.size)[j]? = some r → Value.okWide P W' .any 0 t r) :
    s.post enc P f apart fresh handsOn again W args v W' := by
  have hlt : ∀ p ∈ before, p.block < W.heap.size := fun p hp => hW.lt p hp
  have hold : ∀ p ∈ before, (fun b => decide (b < W.heap.size)) p.block = true := fun p hp => by simpa using hlt p hp
  refine ⟨ds, gs, before, [], pa, pv, hW, hres _ _ _, hargs _ hold, hvars _ hold, World.keptBut_mono (fun p hp => ⟨hp, ?_⟩) (hb.frame (· ∈ before)), fun _ => ?_⟩
  · rw [hps, List.mem_append] at hp
    exact Or.inr hp
  · obtain ⟨_, _, _, _, _, hz, hn⟩ := hW
    refine ⟨hok, _, _, ([] ++ pa) ++ pv, ⟨[] ++ pa, pv, trodAll_append (hargs _ (fun _ _ => rfl)) (hres _ _ _), hvars _ (fun _ _ => rfl), rfl, ?_, ?_⟩, ?_⟩
    · intro b off hp
      have hin : MemPlace.cell b off ∈ before := by rw [hps]; simpa using hp
      rw [hb.frozen (hlt _ hin)]
      exact hz b off hin
    · intro ha
      have := hn ha
      rw [hps] at this
      simpa using this
    · intro p hp _
      rw [hps]
      simpa using hp
end
end Go.Proofs.YtcaoblilkgajoaaDoor
end

section
namespace Go.Proofs.YtcaoblilkgajoaaDoor
open Go Go.ChangeShapes Go.WideShapes Go.ChangeAt Go.RowKit Go.Deep
theorem spot_noneM {w : World} {a : Addr} {v : Value} (h : w.cell? a = some v) : a = ⟨a.block, a.off, none⟩ := by
  obtain ⟨b, o, sp⟩ := a
  cases sp with
  | none => rfl
  | some s =>
    unfold World.cell? at h
    simp only at h
    split at h
    · simp at h
    · cases h
theorem addr_formM {w : World} {a : Addr} {v : Value} (h : w.cell? (a.add 0) = some v) : ∃ b o, a = ⟨b, o, none⟩ := ⟨_, _, spot_noneM h⟩
section
variable {H : Type} {enc : TypeId × Value → H} {w : World} {base : Nat} {spare : Nat → Bool} {held : Bool} {fuel : Nat}
theorem ints_of_trod {v : Value} {y : DataW H × List MemPlace} (h : DataW.trod enc Tryd.prog w base spare held fuel 22 [v] = some y) : ∃ (A : Option Addr) (n c : Nat) (xs : List Int), v = .slice A n c ∧ n ≤ maxLen ∧ IntsAt w A n xs := by
  rcases open_ints Tryd.underlying22 Tryd.underlying3 (by kernel_rfl) h with ⟨h1, _⟩ | ⟨a, len, cap, zs, h1, _, hl, hm, hsl, _, hc, _⟩
  · obtain rfl : v = .slice none 0 0 := by simpa using h1
    exact ⟨none, 0, 0, [], rfl, by unfold maxLen; omega, RowAt.nil w⟩
  · obtain rfl : v = .slice (some a) len cap := by simpa using h1
    have hle : len ≤ zs.length := by rw [hsl]; split <;> omega
    refine ⟨some a, len, cap, zs.take len, rfl, by omega, by simp; omega, fun hn => ?_⟩
    obtain ⟨b, o, rfl⟩ := addr_formM (hc 0 (by omega))
    refine ⟨b, o, rfl, fun j u hu => ?_⟩
    rw [List.getElem?_map] at hu
    obtain ⟨s, hs, rfl⟩ := Option.map_eq_some_iff.1 hu
    have hj : j < len := by
      rcases Nat.lt_or_ge j len with h | h
      · exact h
      · rw [List.getElem?_eq_none (by simp; omega)] at hs; cases hs
    have := hc j (by omega)
    rw [Addr.add_lit] at this
    rw [this]
    rw [List.getElem?_take_of_lt hj] at hs
    rw [List.getD_eq_getElem?_getD, hs]
    rfl
theorem int_of_trod {v : Value} {y : DataW H × List MemPlace} (h : DataW.trod enc Tryd.prog w base spare held fuel 3 [v] = some y) : ∃ n : Int, v = .int .i64 n ∧ -9223372036854775808 ≤ n ∧ n ≤ 9223372036854775807 := by
  obtain ⟨n, h1, _, hw⟩ := DataW.trod_int Tryd.underlying3 h
  obtain rfl : v = .int .i64 n := by simpa using h1
  refine ⟨n, rfl, ?_⟩
  simp only [Lit.wf, Bool.and_eq_true, decide_eq_true_eq] at hw
  have h1 : (IntKind.i64.min : Int) = -9223372036854775808 := by rfl
  have h2 : (IntKind.i64.max : Int) = 9223372036854775807 := by rfl
  rw [h1, h2] at hw
  exact hw
end
end Go.Proofs.YtcaoblilkgajoaaDoor
end

section
namespace Go.Proofs.YtcaoblilkgajoaaDoor
open Go Go.ChangeShapes Go.WideShapes Go.ChangeAt Go.RowKit Go.Deep
section
variable {H : Type} {enc : TypeId × Value → H} {w : World} {base : Nat} {spare : Nat → Bool} {held : Bool} {fuel : Nat}
set_option maxRecDepth 100000 in
theorem open_br {r : Reach} {b0 : Nat} {v : Value} {d : DataW H} {p : List MemPlace} (hval : Value.okWide Tryd.prog w r b0 24 v) (h : DataW.Trod enc Tryd.prog w base spare held 24 v d p) :
    ∃ (s : Int) (A : Option Addr) (n c : Nat) (ws : List Int), v = .agg #[.int .i64 s, .slice A n c] ∧ n ≤ maxLen ∧ IntsAt w A n ws ∧ -9223372036854775808 ≤ s ∧ s ≤ 9223372036854775807 := by
  obtain ⟨cs, rfl, hsz⟩ := okWide_struct Tryd.underlying24 hval
  obtain ⟨fuel, hf⟩ := h
  obtain ⟨c0, c1, rfl⟩ : ∃ c0 c1, cs = #[c0, c1] := by
    have h3 : cs.size = 2 := hsz.trans (by kernel_rfl)
    obtain ⟨l⟩ := cs
    match l, h3 with
    | [a, b], _ => exact ⟨a, b, rfl⟩
  have hf' : DataW.trod enc Tryd.prog w base spare held fuel 24 [c0, c1] = some (d, p) := hf
  obtain ⟨xs, n', _, _, _, hxl, hfld⟩ := DataW.trod_struct Tryd.underlying24 hf'
  have c22 : Tryd.prog.cellsOf 22 = 1 := by kernel_rfl
  have c3 : Tryd.prog.cellsOf 3 = 1 := by kernel_rfl
  have g0 : DataW.trod enc Tryd.prog w base spare held n' 3 (([c0, c1].drop 0).take (Tryd.prog.cellsOf 3)) = xs[0]? := hfld 0 _ rfl
  have g1 : DataW.trod enc Tryd.prog w base spare held n' 22 (([c0, c1].drop 1).take (Tryd.prog.cellsOf 22)) = xs[1]? := hfld 1 _ rfl
  rw [c22] at g1
  rw [c3] at g0
  simp only [List.drop_zero, List.drop_succ_cons, List.take_succ_cons, List.take_zero] at g0 g1
  have x0 : xs[0]? = some (xs[0]'(by rw [hxl]; decide)) := List.getElem?_eq_getElem _
  have x1 : xs[1]? = some (xs[1]'(by rw [hxl]; decide)) := List.getElem?_eq_getElem _
  rw [x0] at g0
  rw [x1] at g1
  obtain ⟨s, rfl, h1, h2⟩ := int_of_trod g0
  obtain ⟨A, n, c, ws, rfl, hn, hs⟩ := ints_of_trod g1
  exact ⟨s, A, n, c, ws, rfl, hn, hs, h1, h2⟩
end
end Go.Proofs.YtcaoblilkgajoaaDoor
end
