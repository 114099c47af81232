/-
  The texts Nn, No, Np in one.
-/
import Derived.Test.YtlffopdoeobgaaaGreatDoorL12
import Derived.Test.YtlffopdoeobgaaaGreatDoorL07
import Derived.Laws.IdiomStrings
import Derived.Test.YtlffopdoeobgaaaGreatDoorL10
import Derived.Test.YtlffopdoeobgaaaGreatDoorRows
import Derived.Deep.Slices
import Derived.Deep.Fields
import Derived.ChangeSame
import Derived.Stop.LaidErr
import Derived.Lib.LaidTab
set_option linter.unusedVariables false
set_option linter.unusedSimpArgs false

section
namespace Go.Proofs.YtlffopdoeobgaaaGreatDoor
open Go Go.RowKit
attribute [local go_sem ↓] Go.wp_at_zero Go.wp_at_succ
theorem own_form {w : World} {base n : Nat} {v : Value} {ms : List Mv} (h : w.ownsRow base 36 5 v n (mvs ms)) (hn : n = ms.length) (hp : 0 < n) : ∃ g c, v = .slice (some ⟨g, 0, none⟩) n c ∧ MvsA w (some ⟨g, 0, none⟩) n ms := by
  obtain ⟨g, cap, hA, _, _⟩ := World.ownsRow.form h hp
  subst hA
  exact ⟨g, cap, rfl, (movesV_own h hn).a⟩
theorem lon_1 : apD lon ⟨1, -1, 0, 1, false⟩ = ⟨[1], [1, 0, 3, 2], 0⟩ := by rfl
theorem lon_2 : apD ⟨[1], [1, 0, 3, 2], 0⟩ ⟨2, 0, 0, 0, false⟩ = lon := by rfl
theorem lon_c1 : apC lon ⟨1, -1, 0, 1, false⟩ = 0 := by
  unfold apC
  rw [Pl.vb_true (show inR lon.n ⟨1, -1, 0, 1, false⟩ by unfold inR lon; simp [Pl.Dg.n])]
  rfl
theorem lon_c2 : apC ⟨[1], [1, 0, 3, 2], 0⟩ ⟨2, 0, 0, 0, false⟩ = 0 := by
  unfold apC
  rw [Pl.vb_true (show inR (Pl.Dg.n ⟨[1], [1, 0, 3, 2], 0⟩) ⟨2, 0, 0, 0, false⟩ by unfold inR; simp [Pl.Dg.n])]
  rfl
theorem lon_l : Lgl lon [⟨1, -1, 0, 1, false⟩, ⟨2, 0, 0, 0, false⟩] := by
  intro j y h
  match j, h with
  | 0, h => injection h with h; subst h; exact lon_c1
  | 1, h => injection h with h; subst h; show apC (apD lon ⟨1, -1, 0, 1, false⟩) _ = 0; rw [lon_1]; exact lon_c2
  | j + 2, h => simp at h
theorem lon_e : apN lon [⟨1, -1, 0, 1, false⟩, ⟨2, 0, 0, 0, false⟩] 2 = lon := by
  show apD (apD lon ⟨1, -1, 0, 1, false⟩) ⟨2, 0, 0, 0, false⟩ = lon
  rw [lon_1, lon_2]
theorem apg_1 : ApG lon ⟨1, -1, 0, 1, false⟩ := by
  have hin : inR lon.n ⟨1, -1, 0, 1, false⟩ := by unfold inR lon; simp [Pl.Dg.n]
  refine ⟨fun A B n cp cq m lp w hn hm hl hg => ?_, fun _ => ?_, fun _ f hf => ?_⟩
  · subst hn hl
    rw [lon_c1]
    exact apply_1 lon lon_ok A B cp cq m (-1) 0 1 false w hm hg hin
  · exact crl_loop lon_ok (.inl rfl) (by decide) (by decide)
  · show StOk 0 1 ⟨⟨1, -1, 0, 1, false⟩, ⟨2, 0, 0, 0, false⟩, f⟩
    unfold StOk TrIn
    simp
theorem one_ok : Pl.Valid ⟨[1], [1, 0, 3, 2], 0⟩ := by
  rw [← lon_1]
  exact apg_1.ok lon_c1
theorem apg_2 : ApG ⟨[1], [1, 0, 3, 2], 0⟩ ⟨2, 0, 0, 0, false⟩ := by
  have hin : inR (Pl.Dg.n ⟨[1], [1, 0, 3, 2], 0⟩) ⟨2, 0, 0, 0, false⟩ := by unfold inR; simp [Pl.Dg.n]
  refine ⟨fun A B n cp cq m lp w hn hm hl hg => ?_, fun _ => ?_, fun _ f hf => ?_⟩
  · subst hn hl
    rw [lon_c2]
    exact apply_2 _ one_ok A B cp cq m 0 0 0 false w hm hg hin
  · rw [lon_2]; exact lon_ok
  · rw [lon_2]
    show StOk 1 0 ⟨⟨2, 0, 0, 0, false⟩, ⟨1, -1, 0, 1, false⟩, f⟩
    unfold StOk TrIn
    simp
theorem apg_lone (k : Nat) (z : Mv) (hz : [(⟨1, -1, 0, 1, false⟩ : Mv), ⟨2, 0, 0, 0, false⟩][k]? = some z) : ApG (apN lon [⟨1, -1, 0, 1, false⟩, ⟨2, 0, 0, 0, false⟩] k) z := by
  match k, hz with
  | 0, hz => injection hz with hz; subst hz; exact apg_1
  | 1, hz => injection hz with hz; subst hz; show ApG (apD lon ⟨1, -1, 0, 1, false⟩) _; rw [lon_1]; exact apg_2
  | k + 2, hz => simp at hz
theorem play_lone (C : Option Addr) (cc : Nat) (w : World) (hc : MvsA w C 2 [⟨1, -1, 0, 1, false⟩, ⟨2, 0, 0, 0, false⟩]) :
    Calls Tryz.prog 13 #[.agg #[.slice none 0 0, .slice none 0 0, .int .i64 1], .slice C 2 cc] w fun e w' => ∃ (A B C : Option Addr) (c1 c2 c3 : Nat),
    e = .returned (.tuple #[.agg #[.slice A 0 c1, .slice B 0 c2, .int .i64 1], .slice C 2 c3, .int .i64 (-1), .int .i64 0]) ∧ Below w.heap.size w w' := by
  refine (play_gen lon lon_ok none none C 0 0 0 2 cc _ w rfl (lon_at _ _ _) hc (by decide) (fun k z hz _ => apg_lone k z hz)).mono ?_
  intro e w' h
  obtain ⟨A1, B1, C1, c1, c2, c3, n1, m1, lp1, bs, h1, h2, h3, h4, h5, h6, h7⟩ := h.2.1 lon_l
  have he : apN lon [⟨1, -1, 0, 1, false⟩, ⟨2, 0, 0, 0, false⟩] ([⟨1, -1, 0, 1, false⟩, ⟨2, 0, 0, 0, false⟩] : List Mv).length = lon := lon_e
  rw [he] at h1 h3
  subst h1 h3
  subst h2
  exact ⟨A1, B1, C1, c1, c2, c3, h5, h.2.2⟩
set_option maxRecDepth 100000 in
set_option maxHeartbeats 4000000 in
theorem leads_lone (C : Option Addr) (cc : Nat) (w : World) (hc : MvsA w C 2 [⟨1, -1, 0, 1, false⟩, ⟨2, 0, 0, 0, false⟩]) :
    Calls Tryz.prog 16 #[.agg #[.slice none 0 0, .slice none 0 0, .int .i64 1], .slice C 2 cc, .agg #[.slice none 0 0, .slice none 0 0, .int .i64 1]] w fun e w' => e = .returned (.bool true) ∧ Below w.heap.size w w' := by
  have HCS := hide hc
  have R0 := hide ((row_at (W := w) (g := w.heap.size) (t := 24) (vs := [.slice none 0 0, .slice none 0 0, .int .i64 1]) rfl).alloc (.cells #[.slice none 0 0, .slice none 0 0, .int .i64 1] 24))
  have S0 := hide (row_at (W := w.alloc (.cells #[.slice none 0 0, .slice none 0 0, .int .i64 1] 24)) (g := w.heap.size + 1) (t := 24) (vs := [.slice none 0 0, .slice none 0 0, .int .i64 1]) (by simp))
  have B0 := hide (show Below w.heap.size w ((w.alloc (.cells #[.slice none 0 0, .slice none 0 0, .int .i64 1] 24)).alloc (.cells #[.slice none 0 0, .slice none 0 0, .int .i64 1] 24)) from ((Below.refl _ _).alloc (Nat.le_refl _) _).alloc (by simp) _)
  clear hc
  obtain ⟨d0, d1, d2, d3⟩ := box3 R0.out
  obtain ⟨e0, e1, e2, e3⟩ := box3 S0.out
  go_enter Tryz.func16, Tryz.ntmps16
  go_wp2_with fail
  refine (play_lone C cc _ (HCS.out.keep B0.out)).mono ?_
  rintro e w1 ⟨A1, E1, C1, c1, c2, c3, rfl, hb1⟩
  have S1 := hide (S0.out.below hb1)
  have B1 := hide (B0.out.trans (hb1.mono B0.out.size))
  clear hb1 d0 d1 d2 d3 e0 e1 e2 e3 R0 S0 B0
  obtain ⟨e0, e1, e2, e3⟩ := box3 (S1.out.alloc (.cells #[.slice A1 0 c1, .slice E1 0 c2, .int .i64 1] 24))
  go_wp2_with fail
  have b2 : Below w1.heap.size w1 (w1.alloc (.cells #[.slice A1 0 c1, .slice E1 0 c2, .int .i64 1] 24)) := (Below.refl _ _).alloc (Nat.le_refl _) _
  refine (same_lone A1 E1 none none c1 c2 0 0 _).mono ?_
  rintro e w3 ⟨rfl, hb3⟩
  have B3 := hide ((B1.out.trans (b2.mono B1.out.size)).trans (hb3.mono (B1.out.trans (b2.mono B1.out.size)).size))
  clear hb3 b2
  go_wp2_with fail
  go_ret
  exact ⟨rfl, B3.out⟩
set_option maxRecDepth 100000 in
set_option maxHeartbeats 4000000 in
theorem awake09 (w : World) (hg : GV w) : Calls Tryz.prog 11 #[] w fun e w' => e = .returned (.bool true) ∧ Below w.heap.size w w' := by
  have HG := hide hg
  clear hg
  go_enter Tryz.func11, Tryz.ntmps11
  go_wp2_with fail
  refine (mparse_any ⟨#[99, 117, 114, 108, 32, 45, 49, 32, 49, 32, 117, 110, 100, 101, 114, 10, 117, 110, 99, 117, 114, 108, 32, 48, 10]⟩ (by decide) _ HG.out).mono ?_
  rintro e w1 ⟨_, hp, hb1⟩
  obtain ⟨v, rfl, ho⟩ := hp _ eg_a
  obtain ⟨g1, c1, rfl, hms⟩ := own_form ho rfl (by decide)
  have M1 := hide hms
  have B1 := hide hb1
  have G1 := hide (HG.out.below hb1)
  clear hp ho hms hb1 HG
  have X1 := hide (row_at (W := w1) (g := w1.heap.size) (t := 24) (vs := [.slice none 0 0, .slice none 0 0, .int .i64 1]) rfl)
  have C1 := hide (show Below w1.heap.size w1 (w1.alloc (.cells #[.slice none 0 0, .slice none 0 0, .int .i64 1] 24)) from (Below.refl _ _).alloc (Nat.le_refl _) _)
  go_wp2_with fail
  refine (mparse_any ⟨#[112, 111, 107, 101, 32, 48, 32, 52, 32, 48, 32, 111, 118, 101, 114, 10]⟩ (by decide) _ (G1.out.below C1.out)).mono ?_
  rintro e w2 ⟨_, hp, hb2⟩
  obtain ⟨v, rfl, ho⟩ := hp _ eg_b
  obtain ⟨g2, c2, rfl, hms⟩ := own_form ho rfl (by decide)
  have M2 := hide hms
  have X2 := hide (X1.out.below hb2)
  have B2 := hide (B1.out.trans ((C1.out.trans (hb2.mono C1.out.size)).mono B1.out.size))
  have M12 := hide (M1.out.keep (C1.out.trans (hb2.mono C1.out.size)))
  clear hp ho hms hb2 M1 B1 X1 C1 G1
  obtain ⟨d0, d1, d2, d3⟩ := box3 X2.out
  go_wp2_with fail
  refine (leads_lone (some ⟨g1, 0, none⟩) c1 _ M12.out).mono ?_
  rintro e w3 ⟨rfl, hb3⟩
  obtain ⟨b, o, k, x, y, s, v, hA, hz, e0, e1, e2, e3, e4⟩ := (M2.out.keep hb3).at_ (j := 0) (by decide)
  injection hA with hA
  injection hA with hA1 hA2
  subst hA1 hA2
  simp only [List.getElem?_cons_zero, Option.some.injEq] at hz
  injection hz with z1 z2 z3 z4 z5
  subst z1 z2 z3 z4 z5
  have B3 := hide (B2.out.trans (hb3.mono B2.out.size))
  clear hb3 d0 d1 d2 d3
  go_wp2_with fail
  go_ret
  exact ⟨rfl, B3.out⟩
end Go.Proofs.YtlffopdoeobgaaaGreatDoor
end

section
namespace Go.Proofs.YtlffopdoeobgaaaGreatDoor
open Go Go.RowKit
attribute [local go_sem ↓] Go.wp_at_zero Go.wp_at_succ
set_option maxRecDepth 100000 in
set_option maxHeartbeats 2000000 in
theorem requal_eq (xs ys : List Int) (l : Int) (A B A2 B2 : Option Addr) (n m c d c2 d2 : Nat) (w : World) (hx : IntsAt w A n xs) (hy : IntsAt w B m ys) (hx2 : IntsAt w A2 n xs) (hy2 : IntsAt w B2 m ys) (hn : n ≤ 100000) (hm : m ≤ 100000) :
    Calls Tryz.prog 15 #[.agg #[.slice A n c, .slice B m d, .int .i64 l], .agg #[.slice A2 n c2, .slice B2 m d2, .int .i64 l]] w fun e w' => e = .returned (.bool true) ∧ Below w.heap.size w w' := by
  have HX := hide hx
  have HY := hide hy
  have HX2 := hide hx2
  have HY2 := hide hy2
  clear hx hy hx2 hy2
  have X1 := hide ((row_at (W := w) (g := w.heap.size) (t := 24) (vs := [.slice A n c, .slice B m d, .int .i64 l]) rfl).below ((Below.refl _ _).alloc (Nat.le_refl _) (.cells #[.slice A2 n c2, .slice B2 m d2, .int .i64 l] 24)))
  have Y1 := hide (row_at (W := w.alloc (.cells #[.slice A n c, .slice B m d, .int .i64 l] 24)) (g := w.heap.size + 1) (t := 24) (vs := [.slice A2 n c2, .slice B2 m d2, .int .i64 l]) (by simp))
  have B0 := hide (show Below w.heap.size w ((w.alloc (.cells #[.slice A n c, .slice B m d, .int .i64 l] 24)).alloc (.cells #[.slice A2 n c2, .slice B2 m d2, .int .i64 l] 24)) from ((Below.refl _ _).alloc (Nat.le_refl _) _).alloc (by simp) _)
  obtain ⟨d0, d1, d2', d3⟩ := box3 X1.out
  obtain ⟨e0, e1, e2, e3⟩ := box3 Y1.out
  go_enter Tryz.func15, Tryz.ntmps15
  go_wp2_with fail
  refine (ints_eq A A2 n c c2 xs _ (HX.out.keep B0.out) (HX2.out.keep B0.out) hn).mono ?_
  rintro e w1 ⟨rfl, hb1⟩
  have B1 := hide (B0.out.trans (hb1.mono B0.out.size))
  have X2 := hide (X1.out.below hb1)
  have Y2 := hide (Y1.out.below hb1)
  clear hb1 d0 d1 d2' d3 e0 e1 e2 e3 X1 Y1
  obtain ⟨d0, d1, d2', d3⟩ := box3 X2.out
  obtain ⟨e0, e1, e2, e3⟩ := box3 Y2.out
  go_wp2_with fail
  refine (ints_eq B B2 m d d2 ys _ (HY.out.keep B1.out) (HY2.out.keep B1.out) hm).mono ?_
  rintro e w2 ⟨rfl, hb2⟩
  have B2 := hide (B1.out.trans (hb2.mono B1.out.size))
  have X3 := hide (X2.out.below hb2)
  have Y3 := hide (Y2.out.below hb2)
  clear hb2 d0 d1 d2' d3 e0 e1 e2 e3 X2 Y2
  obtain ⟨d0, d1, d2', d3⟩ := box3 X3.out
  obtain ⟨e0, e1, e2, e3⟩ := box3 Y3.out
  go_wp2
  go_ret
  exact ⟨rfl, B2.out⟩
theorem byteInfo : (Tryz.prog.info? 5).map (fun i => (i.zero, i.size, i.bytes)) = some (some (.int .u8 0), 1, 1) := by kernel_rfl
theorem run_bytes0 (n : Nat) (hn : n ≤ 100000) (w : World) : (Instr.makeSlice 39 (.int .i64 (n : Int)) (.int .i64 (n : Int))).run Tryz.prog w = .ok (.slice (some ⟨w.heap.size, 0, none⟩) n n) (w.alloc (.cells (List.replicate n (Value.int .u8 0)).toArray 5)) := by
  obtain ⟨i0, hi, hz0, hz1, hz2⟩ := info_parts byteInfo
  have := run_make (P := Tryz.prog) w 39 5 i0 (.int .u8 0) Tryz.underlying39 hi hz0 .i64 .i64 n n (by omega) (Int.le_refl _) (by rw [hz2]; omega) (by omega)
  rw [hz1, Nat.mul_one, Int.toNat_natCast, show madeCells (Value.cells (.int .u8 0)) n = (List.replicate n (.int .u8 0)).toArray from made_rep _ _] at this
  exact this
theorem run_movesN (n : Nat) (hn : n ≤ 1000000) (w : World) : (Instr.makeSlice 25 (.int .i64 (n : Int)) (.int .i64 (n : Int))).run Tryz.prog w = .ok (.slice (some ⟨w.heap.size, 0, none⟩) n n) (w.alloc (.cells (madeCells (Value.cells (.agg #[.int .i64 0, .int .i64 0, .int .i64 0, .int .i64 0, .bool false])) (n * 5)) 36)) := by
  obtain ⟨i0, hi, hz0, hz1, hz2⟩ := info_parts moveInfo
  have := run_make (P := Tryz.prog) w 25 36 i0 _ Tryz.underlying25 hi hz0 .i64 .i64 n n (by omega) (Int.le_refl _) (by rw [hz2]; omega) (by omega)
  rw [hz1, Int.toNat_natCast] at this
  exact this
theorem play_lim (sg mt : List Int) (lp : Int) (A B C : Option Addr) (n q cp cq nc cc : Nat) (w : World) (hs : IntsAt w A n sg) (hm : IntsAt w B q mt) (hn : n ≤ maxLen) (hq : q ≤ maxLen) (hlp : -9223372036854775808 ≤ lp ∧ lp ≤ 9223372036854775807) (hnc : 10000 < nc) (hnc2 : nc ≤ 1000000) :
    Calls Tryz.prog 13 #[.agg #[.slice A n cp, .slice B q cq, .int .i64 lp], .slice C nc cc] w fun e w' => e = playErr (if Pl.vb (Pl.VL sg mt lp) = true then 5 else 1) ∧ Below w.heap.size w w' := by
  by_cases hv : Pl.VL sg mt lp
  · have hl := hs.len
    have hl2 := hm.len
    have hl3 := hv.len
    have en : (Pl.mk sg mt lp).n = n := hl
    have em : nats (Pl.mk sg mt lp).mt = mt := Pl.nats_mk hv.2.1
    have el : ((Pl.mk sg mt lp).lp : Int) = lp := by show ((lp.toNat : Nat) : Int) = lp; have := hv.2.2; omega
    have h := play_full (Pl.mk sg mt lp) hv.1 A B C cp cq q nc cc w (by rw [en]; omega) ⟨by rw [en]; exact hs, by rw [en, em, show 4 * n = q by omega]; exact hm⟩ hnc hnc2
    rw [en, el] at h
    rw [Pl.vb_true hv]
    exact h
  · rw [Pl.vb_false hv]
    exact play_bad sg mt lp A B C n q cp cq nc cc w hs hm hn hq hlp hv
theorem rep_set {α : Type} (a b : α) {k N : Nat} (h : k < N) : (List.replicate k a ++ List.replicate (N - k) b).set k a = List.replicate (k + 1) a ++ List.replicate (N - (k + 1)) b := by
  refine List.ext_getElem? fun i => ?_
  rw [List.getElem?_set]
  by_cases hi : k = i
  · subst hi
    rw [if_pos rfl, if_pos (by simp; omega), List.getElem?_append_left (by simp), List.getElem?_replicate, if_pos (by omega)]
  · rw [if_neg hi]
    rcases Nat.lt_or_ge i k with h1 | h1
    · rw [List.getElem?_append_left (by simpa using h1), List.getElem?_append_left (by simp; omega), List.getElem?_replicate, List.getElem?_replicate, if_pos h1, if_pos (by omega)]
    · rw [List.getElem?_append_right (by simpa using h1), List.getElem?_append_right (by simp; omega), List.getElem?_replicate, List.getElem?_replicate]
      simp only [List.length_replicate]
      by_cases h2 : i - k < N - k
      · rw [if_pos h2, if_pos (by omega)]
      · rw [if_neg h2, if_neg (by omega)]
set_option maxRecDepth 100000 in
set_option maxHeartbeats 4000000 in
theorem movieLimits_walk (sg mt : List Int) (lp : Int) (A B : Option Addr) (n q cp cq mo : Nat) (w : World) (hs : IntsAt w A n sg) (hm : IntsAt w B q mt) (hn : n ≤ maxLen) (hq : q ≤ maxLen) (hlp : -9223372036854775808 ≤ lp ∧ lp ≤ 9223372036854775807) (hmo : mo < 256) (hg : GV w) :
    Calls Tryz.prog 5 #[.agg #[.slice A n cp, .slice B q cq, .int .i64 lp], .int .u8 (mo : Int)] w fun e w' => e = .returned (.bool true) ∧ Below w.heap.size w w' := by
  have HS := hide hs
  have HM := hide hm
  have HG := hide hg
  clear hs hm hg
  have X0 := hide (row_at (W := w) (g := w.heap.size) (t := 24) (vs := [.slice A n cp, .slice B q cq, .int .i64 lp]) rfl)
  have B0 := hide (show Below w.heap.size w (w.alloc (.cells #[.slice A n cp, .slice B q cq, .int .i64 lp] 24)) from (Below.refl _ _).alloc (Nat.le_refl _) _)
  go_enter Tryz.func5, Tryz.ntmps5
  go_wp2_with fail
  refine (awake09 _ (HG.out.below B0.out)).mono ?_
  rintro e w1 ⟨rfl, hb1⟩
  have X1 := hide (X0.out.below hb1)
  have B1 := hide (B0.out.trans (hb1.mono B0.out.size))
  clear X0 B0 hb1 HG
  obtain ⟨d0, d1, d2, d3⟩ := box3 X1.out
  go_wp2_with fail
  refine (great09_any A B none n q cp cq 0 0 lp w1).mono ?_
  rintro e w2 ⟨rfl, hb2⟩
  have X2 := hide (X1.out.below hb2)
  have B2 := hide (B1.out.trans (hb2.mono B1.out.size))
  clear X1 B1 hb2 d0 d1 d2 d3
  obtain ⟨gb, hgb⟩ : ∃ b, b = decide (16 < n ∨ 64 < q ∨ 30 < 0) := ⟨_, rfl⟩
  rw [← hgb]
  clear hgb
  obtain ⟨d0, d1, d2, d3⟩ := box3 X2.out
  cases gb with
  | true =>
    go_wp2
    go_ret
    exact ⟨rfl, B2.out⟩
  | false =>
    obtain ⟨N, hN⟩ : ∃ N, N = 10001 + mo := ⟨_, rfl⟩
    obtain ⟨M, hM⟩ : ∃ N, N = 65537 + mo := ⟨_, rfl⟩
    have hN2 : N ≤ 1000000 := by omega
    have hM2 : M ≤ 100000 := by omega
    have hN3 : 10000 < N := by omega
    have hM3 : 65536 < M := by omega
    have hmk : (Instr.makeSlice 25 (.int .i64 (10001 + (mo : Int))) (.int .i64 (10001 + (mo : Int)))).run Tryz.prog w2 = .ok (.slice (some ⟨w2.heap.size, 0, none⟩) N N) (w2.alloc (.cells (madeCells (Value.cells (.agg #[.int .i64 0, .int .i64 0, .int .i64 0, .int .i64 0, .bool false])) (N * 5)) 36)) := by
      rw [show (10001 : Int) + (mo : Int) = (N : Int) by omega]
      exact run_movesN N hN2 w2
    have hmk2 := hide (fun (W : World) => show (Instr.makeSlice 39 (.int .i64 (65537 + (mo : Int))) (.int .i64 (65537 + (mo : Int)))).run Tryz.prog W = .ok (.slice (some ⟨W.heap.size, 0, none⟩) M M) (W.alloc (.cells (List.replicate M (Value.int .u8 0)).toArray 5)) by
      rw [show (65537 : Int) + (mo : Int) = (M : Int) by omega]
      exact run_bytes0 M hM2 W)
    clear hN hM
    obtain ⟨w3, hw3⟩ : ∃ V, V = w2.alloc (.cells (madeCells (Value.cells (.agg #[.int .i64 0, .int .i64 0, .int .i64 0, .int .i64 0, .bool false])) (N * 5)) 36) := ⟨_, rfl⟩
    have b3 : Below w2.heap.size w2 w3 := by rw [hw3]; exact (Below.refl _ _).alloc (Nat.le_refl _) _
    have X3 := hide (X2.out.below b3)
    have B3 := hide (B2.out.trans (b3.mono B2.out.size))
    rw [← hw3] at hmk
    clear hw3 b3
    go_upto_region 6 with fail
    clear hmk d0 d1 d2 d3 X2 B2
    obtain ⟨d0, d1, d2, d3⟩ := box3 X3.out
    go_wp2_with fail
    refine (play_lim sg mt lp A B _ n q cp cq N _ w3 (HS.out.keep B3.out) (HM.out.keep B3.out) hn hq hlp hN3 hN2).mono ?_
    rintro e w4 ⟨rfl, hb4⟩
    obtain ⟨vb, hvb⟩ : ∃ b, b = Pl.vb (Pl.VL sg mt lp) := ⟨_, rfl⟩
    have HVB := hide hvb
    rw [← hvb]
    have X4 := hide (X3.out.below hb4)
    have B4 := hide (B3.out.trans (hb4.mono B3.out.size))
    clear X3 B3 hb4 d0 d1 d2 d3 hvb
    obtain ⟨ce, hce⟩ : ∃ c : Int, c = (if vb = true then 5 else 1) := ⟨_, rfl⟩
    rw [← hce]
    have HCE := hide hce
    clear hce
    unfold playErr
    have X4' := hide (X4.out.alloc (.cells #[.slice none 0 0, .slice none 0 0, .int .i64 0] 24))
    have Y4 := hide (row_at (W := w4) (g := w4.heap.size) (t := 24) (vs := [.slice none 0 0, .slice none 0 0, .int .i64 0]) rfl)
    have B4' := hide (B4.out.alloc B4.out.size (.cells #[.slice none 0 0, .slice none 0 0, .int .i64 0] 24))
    obtain ⟨d0, d1, d2, d3⟩ := box3 X4'.out
    go_wp2_with fail
    refine (valid_any sg mt lp A B n q cp cq _ (HS.out.keep B4'.out) (HM.out.keep B4'.out) hn hq hlp).mono ?_
    rintro e w5 ⟨rfl, hb5⟩
    rw [← HVB.out]
    have Y5 := hide (Y4.out.below hb5)
    have B5 := hide (B4'.out.trans (hb5.mono B4'.out.size))
    clear X4 X4' Y4 B4 B4' hb5 d0 d1 d2 d3
    obtain ⟨w6, hw6⟩ : ∃ V, V = w5.alloc (.cells (List.replicate M (Value.int .u8 0)).toArray 5) := ⟨_, rfl⟩
    have hmk := hmk2.out w5
    have b6 : Below w5.heap.size w5 w6 := by rw [hw6]; exact (Below.refl _ _).alloc (Nat.le_refl _) _
    obtain ⟨gt, hgt⟩ : ∃ g, g = w5.heap.size := ⟨_, rfl⟩
    have hgt0 : w.heap.size ≤ gt := by rw [hgt]; exact B5.out.size
    have hgt1 : w4.heap.size ≠ gt := by rw [hgt]; have := Y5.out.lt; omega
    have T6 := hide (show Row w6 gt 5 (List.replicate 0 (.int .u8 10) ++ List.replicate (M - 0) (.int .u8 0)) by rw [hw6]; exact row_at hgt)
    have Y6 := hide (Y5.out.below b6)
    have B6 := hide (B5.out.trans (b6.mono B5.out.size))
    rw [← hw6, ← hgt] at hmk
    clear hw6 b6 Y5 B5 hmk2 hgt
    obtain ⟨g4, hg4⟩ : ∃ g, g = w4.heap.size := ⟨_, rfl⟩
    rw [← hg4] at Y6 hgt1 ⊢
    clear hg4
    cases vb
    all_goals (
      go_upto_region 11 with fail
      go_wp2_with fail
      go_loopg [12, 41] M (fun g s12 s41 wx => ∃ k : Nat, k + g = M ∧ s41 = .int .i64 (k : Int) ∧ Row wx gt 5 (List.replicate k (.int .u8 10) ++ List.replicate (M - k) (.int .u8 0)) ∧ Row wx g4 24 [.slice none 0 0, .slice none 0 0, .int .i64 0] ∧ Below w.heap.size w wx)
      case atStart => exact ⟨0, by omega, rfl, T6.out, Y6.out, B6.out⟩
      case round =>
        obtain ⟨k, hkg, rfl, ht, hy, hb⟩ := hrel
        have HKG := hide hkg
        have T7 := hide ht
        have Y7 := hide hy
        have B7 := hide hb
        have hkM : k ≤ M := by omega
        clear ht hy hb T6 Y6 B6 hmk
        by_cases hk : k < M
        · have hki : (k : Int) < (M : Int) := by omega
          have k0 : (0 : Int) ≤ (k : Int) := by omega
          obtain ⟨vc, hc⟩ : ∃ v, wr.cell? ⟨gt, k, none⟩ = some v := ⟨_, T7.out.cell (i := k) (by simp; omega)⟩
          have hf := T7.out.free k
          clear hkg
          go_wp2_with fail
          go_roundg (gk - 1)
          case measure => have := HKG.out; omega
          case rel =>
            refine ⟨k + 1, by have := HKG.out; omega, by go_num, ?_, Y7.out.other (a := ⟨gt, k, none⟩) hgt1 _, B7.out.setCell (by show _ ≤ gt; exact hgt0) _⟩
            have h := T7.out.set k (.int .u8 10)
            rw [rep_set _ _ hk] at h
            exact h
        · have hki : ¬ ((k : Int) < (M : Int)) := by omega
          have hkeq : k = M := by omega
          clear hkg
          obtain ⟨t, ht, hcv⟩ : ∃ t : ByteArray, t.size = M ∧ (convert 39 9 (.slice (some ⟨gt, 0, none⟩) M M)).run Tryz.prog wr = .ok (.string t) wr := by
            refine ⟨⟨(List.replicate M (10 : UInt8)).toArray⟩, by simp [ByteArray.size], ?_⟩
            have h := run_convert_bytes_back (P := Tryz.prog) wr 39 9 5 ⟨gt, 0, none⟩ M (List.replicate M (10 : UInt8)) Tryz.underlying39 Tryz.underlying5 Tryz.underlying9 (fun j hj => by
              have hj' : j < M := by simpa using hj
              have hc := T7.out.cell (i := j) (by simp; omega)
              rw [List.getElem_append_left (by simp; omega)] at hc
              simp only [List.getElem_replicate] at hc ⊢
              rw [show (Addr.add ⟨gt, 0, none⟩ j) = ⟨gt, j, none⟩ by simp [Addr.add]; omega]
              exact hc)
            rw [List.length_replicate] at h
            exact h
          have ht3 : 65536 < t.size := by omega
          have ht4 : t.size ≤ maxLen := by unfold maxLen; omega
          have Y8 := hide (Y7.out)
          obtain ⟨d0, d1, d2, d3⟩ := box3 Y8.out
          clear T7 ht
          go_wp2_with fail
          refine (mparse_full t ht3 ht4 wr).mono ?_
          rintro e w8 ⟨rfl, rfl⟩
          clear hcv
          have hcev := HCE.out
          simp only [if_true, if_false, Bool.false_eq_true] at hcev
          subst hcev
          go_wp2_with fail
          refine (requal_eq [] [] 0 none none none none 0 0 0 0 0 0 wr (RowAt.nil wr) (RowAt.nil wr) (RowAt.nil wr) (RowAt.nil wr) (by omega) (by omega)).mono ?_
          rintro e w9 ⟨rfl, hb9⟩
          go_wp2
          go_ret
          exact ⟨rfl, B7.out.trans (hb9.mono B7.out.size)⟩)
end Go.Proofs.YtlffopdoeobgaaaGreatDoor
end

section
namespace Go.Proofs.YtlffopdoeobgaaaGreatDoor
open Go Go.ChangeShapes Go.WideShapes Go.ChangeAt Go.RowKit Go.Deep
theorem u8_of {a : Int} (h : (Lit.int .u8 a).wf = true) : 0 ≤ a ∧ a < 256 := by
  simp only [Lit.wf, Bool.and_eq_true, decide_eq_true_eq] at h
  have h1 : (IntKind.u8.min : Int) = 0 := by rfl
  have h2 : (IntKind.u8.max : Int) = 255 := by rfl
  rw [h1, h2] at h
  omega
theorem star_err : "*" ++ "errors.errorString" = "*errors.errorString" := by decide
theorem row_err (u : TypeId) (h : Tryz.prog.typeName? 3 u = some "*errors.errorString") : u = 196 :=
  typeName_ptr_named (nm := "errors.errorString") (by rw [star_err]; kernel_rfl) (by kernel_rfl) (by decide) u (by rw [star_err]; exact h)
theorem gv_of7 {W : World} {t1 t2 t3 t4 : String × DataW Unit} (hm : ∃ m, W.cell? ⟨0, 0, none⟩ = some (.int .i64 m))
    (hL : laidMet Tryz.prog [t1, t2, ("internal/strconv.uint64pow10", Rows.laid_internal_strconv_uint64pow10), t3, ("strconv.ErrRange", Rows.laid_strconv_ErrRange), ("strconv.ErrSyntax", Rows.laid_strconv_ErrSyntax), t4] W) : GV W := by
  have h3 := hL.tail.tail
  have h4 := h3.tail.tail
  have h5 := h4.tail
  refine ⟨hm, ?_, ?_, ?_⟩
  · exact Lib.tabIs_of_head (g := 3) (t := 200) (e := 182) (n := 20) (by kernel_rfl) (by kernel_rfl) (by kernel_rfl) (by kernel_rfl) (by kernel_rfl) (by kernel_rfl) (rest := _) h3
  · obtain ⟨a1, s1, hv1, -, -, -⟩ := laid_sentinel h5 (g := 1) (ti := 83) (tp := 196) (te := 198) (ts := 9) (by kernel_rfl) (by kernel_rfl) Tryz.underlying83 row_err Tryz.underlying196 Tryz.underlying198 rfl rfl Tryz.underlying9 (by kernel_rfl) (by kernel_rfl)
    exact ⟨_, (by have h0 := World.var?_cell (P := Tryz.prog) (g := 1) (by kernel_rfl) hv1 0; simpa using h0), .inr ⟨_, _, rfl⟩⟩
  · obtain ⟨a1, s1, hv1, -, -, -⟩ := laid_sentinel h4 (g := 2) (ti := 83) (tp := 196) (te := 198) (ts := 9) (by kernel_rfl) (by kernel_rfl) Tryz.underlying83 row_err Tryz.underlying196 Tryz.underlying198 rfl rfl Tryz.underlying9 (by kernel_rfl) (by kernel_rfl)
    exact ⟨_, (by have h0 := World.var?_cell (P := Tryz.prog) (g := 2) (by kernel_rfl) hv1 0; simpa using h0), .inr ⟨_, _, rfl⟩⟩
section
variable {H : Type} {enc : TypeId × Value → H} {P : Program} {w : World} {base : Nat} {spare : Nat → Bool} {held : Bool}
end
end Go.Proofs.YtlffopdoeobgaaaGreatDoor
end
