/-
 The texts Nn, No, Np, Nq, Ns in one.
-/
import Derived.Test.YtlffopdoeobgaaaGreatDoorS25
import Derived.Test.YtlffopdoeobgaaaGreatDoorS16
import Derived.Laws.IdiomStrings
import Derived.Test.YtlffopdoeobgaaaGreatDoorS23
import Derived.Test.YtlffopdoeobgaaaGreatDoorS20
import Derived.Test.YtlffopdoeobgaaaGreatDoorRows
import Derived.Deep.Slices
import Derived.Deep.Fields
import Derived.ChangeSame
import Derived.Stop.LaidErr
import Derived.Lib.LaidTab
import Derived.Test.YtlffopdoeobgaaaGreatDoorS06
import Derived.Test.YtlffopdoeobgaaaGreatDoorS05
import Derived.Test.YtlffopdoeobgaaaGreatDoorS00
import Derived.Test.YtlffopdoeobgaaaGreatDoorS18
import Derived.Test.YtlffopdoeobgaaaGreatDoorS07
import Derived.Test.YtlffopdoeobgaaaGreatDoorS03
import Derived.Deep.RegionHeld3
import Derived.Deep.DrawnRows
set_option linter.unusedVariables false
set_option linter.unusedSimpArgs false
section
namespace Go.Proofs.YtlffopdoeobgaaaGreatDoor
open Go Go.RowKit
attribute [local go_sem ↓] Go.wp_at_zero Go.wp_at_succ
theorem own_form {w : World} {base n : Nat} {v : Value} {ms : List Mv} (h : w.ownsRow base 36 5 v n (mvs ms)) (hn : n = ms.length) (hp : 0 < n) : ∃ g c, v = .slice (some ⟨g, 0, none⟩) n c ∧ MvsA w (some ⟨g, 0, none⟩) n ms := by
 obtain ⟨g, cap, hA, _, _⟩ := World.ownsRow.form h hp
 subst hA
 exact ⟨g, cap, rfl, (movesV_own h hn).a⟩
theorem lon_1 : apD lon ⟨1, -1, 0, 1, false⟩ = ⟨[1], [1, 0, 3, 2], 0⟩ := by rfl
theorem lon_2 : apD ⟨[1], [1, 0, 3, 2], 0⟩ ⟨2, 0, 0, 0, false⟩ = lon := by rfl
theorem lon_c1 : apC lon ⟨1, -1, 0, 1, false⟩ = 0 := by
 unfold apC
 rw [Pl.vb_true (show inR lon.n ⟨1, -1, 0, 1, false⟩ by unfold inR lon; simp [Pl.Dg.n])]
 rfl
theorem lon_c2 : apC ⟨[1], [1, 0, 3, 2], 0⟩ ⟨2, 0, 0, 0, false⟩ = 0 := by
 unfold apC
 rw [Pl.vb_true (show inR (Pl.Dg.n ⟨[1], [1, 0, 3, 2], 0⟩) ⟨2, 0, 0, 0, false⟩ by unfold inR; simp [Pl.Dg.n])]
 rfl
theorem lon_l : Lgl lon [⟨1, -1, 0, 1, false⟩, ⟨2, 0, 0, 0, false⟩] := by
 intro j y h
 match j, h with
 | 0, h => injection h with h; subst h; exact lon_c1
 | 1, h => injection h with h; subst h; show apC (apD lon ⟨1, -1, 0, 1, false⟩) _ = 0; rw [lon_1]; exact lon_c2
 | j + 2, h => simp at h
theorem lon_e : apN lon [⟨1, -1, 0, 1, false⟩, ⟨2, 0, 0, 0, false⟩] 2 = lon := by
 show apD (apD lon ⟨1, -1, 0, 1, false⟩) ⟨2, 0, 0, 0, false⟩ = lon
 rw [lon_1, lon_2]
theorem apg_1 : ApG lon ⟨1, -1, 0, 1, false⟩ := by
 have hin : inR lon.n ⟨1, -1, 0, 1, false⟩ := by unfold inR lon; simp [Pl.Dg.n]
 refine ⟨fun A B n cp cq m lp w hn hm hl hg => ?_, fun _ => ?_, fun _ f hf => ?_⟩
 ·subst hn hl
  rw [lon_c1]
  exact apply_1 lon lon_ok A B cp cq m (-1) 0 1 false w hm hg hin
 ·exact crl_loop lon_ok (.inl rfl) (by decide) (by decide)
 ·show StOk 0 1 ⟨⟨1, -1, 0, 1, false⟩, ⟨2, 0, 0, 0, false⟩, f⟩
  unfold StOk TrIn
  simp
theorem one_ok : Pl.Valid ⟨[1], [1, 0, 3, 2], 0⟩ := by
 rw [← lon_1]
 exact apg_1.ok lon_c1
theorem apg_2 : ApG ⟨[1], [1, 0, 3, 2], 0⟩ ⟨2, 0, 0, 0, false⟩ := by
 have hin : inR (Pl.Dg.n ⟨[1], [1, 0, 3, 2], 0⟩) ⟨2, 0, 0, 0, false⟩ := by unfold inR; simp [Pl.Dg.n]
 refine ⟨fun A B n cp cq m lp w hn hm hl hg => ?_, fun _ => ?_, fun _ f hf => ?_⟩
 ·subst hn hl
  rw [lon_c2]
  exact apply_2 _ one_ok A B cp cq m 0 0 0 false w hm hg hin
 ·rw [lon_2]; exact lon_ok
 ·rw [lon_2]
  show StOk 1 0 ⟨⟨2, 0, 0, 0, false⟩, ⟨1, -1, 0, 1, false⟩, f⟩
  unfold StOk TrIn
  simp
theorem apg_lone (k : Nat) (z : Mv) (hz : [(⟨1, -1, 0, 1, false⟩ : Mv), ⟨2, 0, 0, 0, false⟩][k]? = some z) : ApG (apN lon [⟨1, -1, 0, 1, false⟩, ⟨2, 0, 0, 0, false⟩] k) z := by
 match k, hz with
 | 0, hz => injection hz with hz; subst hz; exact apg_1
 | 1, hz => injection hz with hz; subst hz; show ApG (apD lon ⟨1, -1, 0, 1, false⟩) _; rw [lon_1]; exact apg_2
 | k + 2, hz => simp at hz
theorem play_lone (C : Option Addr) (cc : Nat) (w : World) (hc : MvsA w C 2 [⟨1, -1, 0, 1, false⟩, ⟨2, 0, 0, 0, false⟩]) :
 Calls Tryz.prog 13 #[.agg #[.slice none 0 0, .slice none 0 0, .int .i64 1], .slice C 2 cc] w fun e w' => ∃ (A B C : Option Addr) (c1 c2 c3 : Nat),
 e = .returned (.tuple #[.agg #[.slice A 0 c1, .slice B 0 c2, .int .i64 1], .slice C 2 c3, .int .i64 (-1), .int .i64 0]) ∧ Below w.heap.size w w' := by
 refine (play_gen lon lon_ok none none C 0 0 0 2 cc _ w rfl (lon_at _ _ _) hc (by decide) (fun k z hz _ => apg_lone k z hz)).mono ?_
 intro e w' h
 obtain ⟨A1, B1, C1, c1, c2, c3, n1, m1, lp1, bs, h1, h2, h3, h4, h5, h6, h7⟩ := h.2.1 lon_l
 have he : apN lon [⟨1, -1, 0, 1, false⟩, ⟨2, 0, 0, 0, false⟩] ([⟨1, -1, 0, 1, false⟩, ⟨2, 0, 0, 0, false⟩] : List Mv).length = lon := lon_e
 rw [he] at h1 h3
 subst h1 h3
 subst h2
 exact ⟨A1, B1, C1, c1, c2, c3, h5, h.2.2⟩
set_option maxRecDepth 100000 in
set_option maxHeartbeats 4000000 in
theorem leads_lone (C : Option Addr) (cc : Nat) (w : World) (hc : MvsA w C 2 [⟨1, -1, 0, 1, false⟩, ⟨2, 0, 0, 0, false⟩]) :
 Calls Tryz.prog 16 #[.agg #[.slice none 0 0, .slice none 0 0, .int .i64 1], .slice C 2 cc, .agg #[.slice none 0 0, .slice none 0 0, .int .i64 1]] w fun e w' => e = .returned (.bool true) ∧ Below w.heap.size w w' := by
 have HCS := hide hc
 have R0 := hide ((row_at (W := w) (g := w.heap.size) (t := 24) (vs := [.slice none 0 0, .slice none 0 0, .int .i64 1]) rfl).alloc (.cells #[.slice none 0 0, .slice none 0 0, .int .i64 1] 24))
 have S0 := hide (row_at (W := w.alloc (.cells #[.slice none 0 0, .slice none 0 0, .int .i64 1] 24)) (g := w.heap.size + 1) (t := 24) (vs := [.slice none 0 0, .slice none 0 0, .int .i64 1]) (by simp))
 have B0 := hide (show Below w.heap.size w ((w.alloc (.cells #[.slice none 0 0, .slice none 0 0, .int .i64 1] 24)).alloc (.cells #[.slice none 0 0, .slice none 0 0, .int .i64 1] 24)) from ((Below.refl _ _).alloc (Nat.le_refl _) _).alloc (by simp) _)
 clear hc
 obtain ⟨d0, d1, d2, d3⟩ := box3 R0.out
 obtain ⟨e0, e1, e2, e3⟩ := box3 S0.out
 go_enter Tryz.func16, Tryz.ntmps16
 go_wp2_with fail
 refine (play_lone C cc _ (HCS.out.keep B0.out)).mono ?_
 rintro e w1 ⟨A1, E1, C1, c1, c2, c3, rfl, hb1⟩
 have S1 := hide (S0.out.below hb1)
 have B1 := hide (B0.out.trans (hb1.mono B0.out.size))
 clear hb1 d0 d1 d2 d3 e0 e1 e2 e3 R0 S0 B0
 obtain ⟨e0, e1, e2, e3⟩ := box3 (S1.out.alloc (.cells #[.slice A1 0 c1, .slice E1 0 c2, .int .i64 1] 24))
 go_wp2_with fail
 have b2 : Below w1.heap.size w1 (w1.alloc (.cells #[.slice A1 0 c1, .slice E1 0 c2, .int .i64 1] 24)) := (Below.refl _ _).alloc (Nat.le_refl _) _
 refine (same_lone A1 E1 none none c1 c2 0 0 _).mono ?_
 rintro e w3 ⟨rfl, hb3⟩
 have B3 := hide ((B1.out.trans (b2.mono B1.out.size)).trans (hb3.mono (B1.out.trans (b2.mono B1.out.size)).size))
 clear hb3 b2
 go_wp2_with fail
 go_ret
 exact ⟨rfl, B3.out⟩
set_option maxRecDepth 100000 in
set_option maxHeartbeats 4000000 in
theorem awake09 (w : World) (hg : GV w) : Calls Tryz.prog 11 #[] w fun e w' => e = .returned (.bool true) ∧ Below w.heap.size w w' := by
 have HG := hide hg
 clear hg
 go_enter Tryz.func11, Tryz.ntmps11
 go_wp2_with fail
 refine (mparse_any ⟨#[99, 117, 114, 108, 32, 45, 49, 32, 49, 32, 117, 110, 100, 101, 114, 10, 117, 110, 99, 117, 114, 108, 32, 48, 10]⟩ (by decide) _ HG.out).mono ?_
 rintro e w1 ⟨_, hp, hb1⟩
 obtain ⟨v, rfl, ho⟩ := hp _ eg_a
 obtain ⟨g1, c1, rfl, hms⟩ := own_form ho rfl (by decide)
 have M1 := hide hms
 have B1 := hide hb1
 have G1 := hide (HG.out.below hb1)
 clear hp ho hms hb1 HG
 have X1 := hide (row_at (W := w1) (g := w1.heap.size) (t := 24) (vs := [.slice none 0 0, .slice none 0 0, .int .i64 1]) rfl)
 have C1 := hide (show Below w1.heap.size w1 (w1.alloc (.cells #[.slice none 0 0, .slice none 0 0, .int .i64 1] 24)) from (Below.refl _ _).alloc (Nat.le_refl _) _)
 go_wp2_with fail
 refine (mparse_any ⟨#[112, 111, 107, 101, 32, 48, 32, 52, 32, 48, 32, 111, 118, 101, 114, 10]⟩ (by decide) _ (G1.out.below C1.out)).mono ?_
 rintro e w2 ⟨_, hp, hb2⟩
 obtain ⟨v, rfl, ho⟩ := hp _ eg_b
 obtain ⟨g2, c2, rfl, hms⟩ := own_form ho rfl (by decide)
 have M2 := hide hms
 have X2 := hide (X1.out.below hb2)
 have B2 := hide (B1.out.trans ((C1.out.trans (hb2.mono C1.out.size)).mono B1.out.size))
 have M12 := hide (M1.out.keep (C1.out.trans (hb2.mono C1.out.size)))
 clear hp ho hms hb2 M1 B1 X1 C1 G1
 obtain ⟨d0, d1, d2, d3⟩ := box3 X2.out
 go_wp2_with fail
 refine (leads_lone (some ⟨g1, 0, none⟩) c1 _ M12.out).mono ?_
 rintro e w3 ⟨rfl, hb3⟩
 obtain ⟨b, o, k, x, y, s, v, hA, hz, e0, e1, e2, e3, e4⟩ := (M2.out.keep hb3).at_ (j := 0) (by decide)
 injection hA with hA
 injection hA with hA1 hA2
 subst hA1 hA2
 simp only [List.getElem?_cons_zero, Option.some.injEq] at hz
 injection hz with z1 z2 z3 z4 z5
 subst z1 z2 z3 z4 z5
 have B3 := hide (B2.out.trans (hb3.mono B2.out.size))
 clear hb3 d0 d1 d2 d3
 go_wp2_with fail
 go_ret
 exact ⟨rfl, B3.out⟩
end Go.Proofs.YtlffopdoeobgaaaGreatDoor
end
section
namespace Go.Proofs.YtlffopdoeobgaaaGreatDoor
open Go Go.RowKit
attribute [local go_sem ↓] Go.wp_at_zero Go.wp_at_succ
set_option maxRecDepth 100000 in
set_option maxHeartbeats 2000000 in
theorem requal_eq (xs ys : List Int) (l : Int) (A B A2 B2 : Option Addr) (n m c d c2 d2 : Nat) (w : World) (hx : IntsAt w A n xs) (hy : IntsAt w B m ys) (hx2 : IntsAt w A2 n xs) (hy2 : IntsAt w B2 m ys) (hn : n ≤ 100000) (hm : m ≤ 100000) :
 Calls Tryz.prog 15 #[.agg #[.slice A n c, .slice B m d, .int .i64 l], .agg #[.slice A2 n c2, .slice B2 m d2, .int .i64 l]] w fun e w' => e = .returned (.bool true) ∧ Below w.heap.size w w' := by
 have HX := hide hx
 have HY := hide hy
 have HX2 := hide hx2
 have HY2 := hide hy2
 clear hx hy hx2 hy2
 have X1 := hide ((row_at (W := w) (g := w.heap.size) (t := 24) (vs := [.slice A n c, .slice B m d, .int .i64 l]) rfl).below ((Below.refl _ _).alloc (Nat.le_refl _) (.cells #[.slice A2 n c2, .slice B2 m d2, .int .i64 l] 24)))
 have Y1 := hide (row_at (W := w.alloc (.cells #[.slice A n c, .slice B m d, .int .i64 l] 24)) (g := w.heap.size + 1) (t := 24) (vs := [.slice A2 n c2, .slice B2 m d2, .int .i64 l]) (by simp))
 have B0 := hide (show Below w.heap.size w ((w.alloc (.cells #[.slice A n c, .slice B m d, .int .i64 l] 24)).alloc (.cells #[.slice A2 n c2, .slice B2 m d2, .int .i64 l] 24)) from ((Below.refl _ _).alloc (Nat.le_refl _) _).alloc (by simp) _)
 obtain ⟨d0, d1, d2', d3⟩ := box3 X1.out
 obtain ⟨e0, e1, e2, e3⟩ := box3 Y1.out
 go_enter Tryz.func15, Tryz.ntmps15
 go_wp2_with fail
 refine (ints_eq A A2 n c c2 xs _ (HX.out.keep B0.out) (HX2.out.keep B0.out) hn).mono ?_
 rintro e w1 ⟨rfl, hb1⟩
 have B1 := hide (B0.out.trans (hb1.mono B0.out.size))
 have X2 := hide (X1.out.below hb1)
 have Y2 := hide (Y1.out.below hb1)
 clear hb1 d0 d1 d2' d3 e0 e1 e2 e3 X1 Y1
 obtain ⟨d0, d1, d2', d3⟩ := box3 X2.out
 obtain ⟨e0, e1, e2, e3⟩ := box3 Y2.out
 go_wp2_with fail
 refine (ints_eq B B2 m d d2 ys _ (HY.out.keep B1.out) (HY2.out.keep B1.out) hm).mono ?_
 rintro e w2 ⟨rfl, hb2⟩
 have B2 := hide (B1.out.trans (hb2.mono B1.out.size))
 have X3 := hide (X2.out.below hb2)
 have Y3 := hide (Y2.out.below hb2)
 clear hb2 d0 d1 d2' d3 e0 e1 e2 e3 X2 Y2
 obtain ⟨d0, d1, d2', d3⟩ := box3 X3.out
 obtain ⟨e0, e1, e2, e3⟩ := box3 Y3.out
 go_wp2
 go_ret
 exact ⟨rfl, B2.out⟩
end Go.Proofs.YtlffopdoeobgaaaGreatDoor
end
section
namespace Go.Proofs.YtlffopdoeobgaaaGreatDoor
open Go Go.ChangeShapes Go.WideShapes Go.ChangeAt Go.RowKit Go.Deep
theorem u8_of {a : Int} (h : (Lit.int .u8 a).wf = true) : 0 ≤ a ∧ a < 256 := by
 simp only [Lit.wf, Bool.and_eq_true, decide_eq_true_eq] at h
 have h1 : (IntKind.u8.min : Int) = 0 := by rfl
 have h2 : (IntKind.u8.max : Int) = 255 := by rfl
 rw [h1, h2] at h
 omega
theorem star_err : "*" ++ "errors.errorString" = "*errors.errorString" := by decide
theorem row_err (u : TypeId) (h : Tryz.prog.typeName? 3 u = some "*errors.errorString") : u = 196 :=
 typeName_ptr_named (nm := "errors.errorString") (by rw [star_err]; kernel_rfl) (by kernel_rfl) (by decide) u (by rw [star_err]; exact h)
theorem gv_of7 {W : World} {t1 t2 t3 t4 : String × DataW Unit} (hm : ∃ m, W.cell? ⟨0, 0, none⟩ = some (.int .i64 m))
 (hL : laidMet Tryz.prog [t1, t2, ("internal/strconv.uint64pow10", Rows.laid_internal_strconv_uint64pow10), t3, ("strconv.ErrRange", Rows.laid_strconv_ErrRange), ("strconv.ErrSyntax", Rows.laid_strconv_ErrSyntax), t4] W) : GV W := by
 have h3 := hL.tail.tail
 have h4 := h3.tail.tail
 have h5 := h4.tail
 refine ⟨hm, ?_, ?_, ?_⟩
 ·exact Lib.tabIs_of_head (g := 3) (t := 200) (e := 182) (n := 20) (by kernel_rfl) (by kernel_rfl) (by kernel_rfl) (by kernel_rfl) (by kernel_rfl) (by kernel_rfl) (rest := _) h3
 ·obtain ⟨a1, s1, hv1, -, -, -⟩ := laid_sentinel h5 (g := 1) (ti := 83) (tp := 196) (te := 198) (ts := 9) (by kernel_rfl) (by kernel_rfl) Tryz.underlying83 row_err Tryz.underlying196 Tryz.underlying198 rfl rfl Tryz.underlying9 (by kernel_rfl) (by kernel_rfl)
  exact ⟨_, (by have h0 := World.var?_cell (P := Tryz.prog) (g := 1) (by kernel_rfl) hv1 0; simpa using h0), .inr ⟨_, _, rfl⟩⟩
 ·obtain ⟨a1, s1, hv1, -, -, -⟩ := laid_sentinel h4 (g := 2) (ti := 83) (tp := 196) (te := 198) (ts := 9) (by kernel_rfl) (by kernel_rfl) Tryz.underlying83 row_err Tryz.underlying196 Tryz.underlying198 rfl rfl Tryz.underlying9 (by kernel_rfl) (by kernel_rfl)
  exact ⟨_, (by have h0 := World.var?_cell (P := Tryz.prog) (g := 2) (by kernel_rfl) hv1 0; simpa using h0), .inr ⟨_, _, rfl⟩⟩
section
variable {H : Type} {enc : TypeId × Value → H} {P : Program} {w : World} {base : Nat} {spare : Nat → Bool} {held : Bool}
theorem open_slice_mv {t e : TypeId} {fs : Array Field} {fuel : Nat} {cs : List Value} {x : DataW H × List MemPlace} (ht : P.underlying t = some (.slice e)) (he : P.underlying e = some (.struct fs))
 (hone : oneCellFields P fs = true) (hC : P.cellsOf e = fs.size) (h : DataW.trod enc P w base spare held fuel t cs = some x) :
 (cs = [.slice none 0 0] ∧ x = (.nil, [])) ∨
 ∃ (a : Addr) (len cap m : Nat), cs = [.slice (some a) len cap] ∧ base ≤ a.block ∧ len ≤ cap ∧ cap ≤ maxLen ∧ m = (if spare a.block then cap else len) ∧
   ∀ i, i < m → ∃ (ys : List (DataW H × List MemPlace)) (n : Nat), ys.length = fs.size ∧
     ∀ (j : Nat) (f : Field), fs[j]? = some f → ∃ (v : Value) (y : DataW H × List MemPlace), w.cell? (a.add (i * fs.size + j)) = some v ∧ ys[j]? = some y ∧ DataW.trod enc P w base spare held n f.type [v] = some y := by
 rcases open_slice ht h with h0 | ⟨a, len, cap, m, n, D, Q, hcs, hb, hl, hm, hmm, hx, hi⟩
 ·exact .inl h0
 ·refine .inr ⟨a, len, cap, m, hcs, hb, hl, hm, hmm, fun i him => ?_⟩
  obtain ⟨cs', hc, ht'⟩ := hi i him
  rw [hC] at hc
  obtain ⟨ys, n', hn', hy, hlen, hyl, hf⟩ := DataW.trod_struct he ht'
  obtain ⟨_, hcl, hat⟩ := World.cells?_some hc
  refine ⟨ys, n', hyl, fun j f hj => ?_⟩
  obtain ⟨ho, hk⟩ := hone_of hone j f hj
  have hjl : j < fs.size := (Array.getElem?_eq_some_iff.1 hj).1
  have hcell := hat j hjl
  have hv : cs'[j]? = some (cs'[j]'(by omega)) := List.getElem?_eq_getElem (by omega)
  have h1 := hf j f hj
  rw [ho, hk] at h1
  have hone' : (cs'.drop j).take 1 = [cs'[j]'(by omega)] := by
   rw [List.drop_eq_getElem_cons (by omega)]
   rfl
  rw [hone'] at h1
  have hys : ys[j]? = some (ys[j]'(by omega)) := List.getElem?_eq_getElem (by omega)
  refine ⟨_, _, ?_, hys, h1.trans hys⟩
  rw [← Go.Deep.add_add, hcell, hv]
end
set_option maxRecDepth 100000 in
set_option maxHeartbeats 2000000 in
theorem open_mvs {H : Type} {enc : TypeId × Value → H} {w : World} {base : Nat} {spare : Nat → Bool} {held : Bool} {r : Reach} {b0 : Nat} {v : Value} {d : DataW H} {p : List MemPlace} (hval : Value.okWide Tryz.prog w r b0 25 v) (h : DataW.Trod enc Tryz.prog w base spare held 25 v d p) :
 ∃ (A : Option Addr) (n c : Nat) (ms : List Mv), v = .slice A n c ∧ n ≤ c ∧ c ≤ maxLen ∧ MvsA w A n ms ∧ ∀ m, m ∈ ms → MvIn m := by
 obtain ⟨A, len, cap, rfl⟩ := okWide_slice Tryz.underlying25 hval
 obtain ⟨fuel, hf⟩ := h
 have hf' : DataW.trod enc Tryz.prog w base spare held fuel 25 [.slice A len cap] = some (d, p) := hf
 rcases open_slice_mv Tryz.underlying25 Tryz.underlying36 (by kernel_rfl) (by kernel_rfl) hf' with ⟨h1, _⟩ | ⟨a, len', cap', m, h1, _, hl, hm, hmm, hi⟩
 ·obtain ⟨rfl, rfl, rfl⟩ : A = none ∧ len = 0 ∧ cap = 0 := by simpa using h1
  exact ⟨none, 0, 0, [], rfl, Nat.le_refl _, Nat.zero_le _, ⟨rfl, fun h => absurd h (by omega)⟩, fun m hm => by cases hm⟩
 ·obtain ⟨rfl, rfl, rfl⟩ : A = some a ∧ len = len' ∧ cap = cap' := by simpa using h1
  have hlm : len ≤ m := by rw [hmm]; split <;> omega
  have key : ∀ i, i < len → ∃ z : Mv, MvIn z ∧ ∀ (j : Nat) (u : Value), z.cells[j]? = some u → w.cell? (a.add (i * 5 + j)) = some u := by
   intro i hil
   obtain ⟨ys, n, hyl, hfld⟩ := hi i (by omega)
   obtain ⟨v0, y0, c0, _, t0⟩ := hfld 0 _ rfl
   obtain ⟨v1, y1, c1, _, t1⟩ := hfld 1 _ rfl
   obtain ⟨v2, y2, c2, _, t2⟩ := hfld 2 _ rfl
   obtain ⟨v3, y3, c3, _, t3⟩ := hfld 3 _ rfl
   obtain ⟨v4, y4, c4, _, t4⟩ := hfld 4 _ rfl
   obtain ⟨k, rfl, _⟩ := int_of_trod t0
   obtain ⟨x, rfl, hx⟩ := int_of_trod t1
   obtain ⟨y, rfl, hy⟩ := int_of_trod t2
   obtain ⟨s, rfl, hs⟩ := int_of_trod t3
   obtain ⟨o, rfl⟩ := bool_of_trod t4
   refine ⟨⟨k, x, y, s, o⟩, ⟨hx, hy, hs⟩, fun j u hu => ?_⟩
   match j, hu with
   | 0, hu => injection hu with hu; subst hu; exact c0
   | 1, hu => injection hu with hu; subst hu; exact c1
   | 2, hu => injection hu with hu; subst hu; exact c2
   | 3, hu => injection hu with hu; subst hu; exact c3
   | 4, hu => injection hu with hu; subst hu; exact c4
   | j + 5, hu => simp [Mv.cells] at hu
  obtain ⟨f, hf⟩ : ∃ f : Nat → Mv, ∀ i, i < len → MvIn (f i) ∧ ∀ (j : Nat) (u : Value), (f i).cells[j]? = some u → w.cell? (a.add (i * 5 + j)) = some u := by
   classical
   refine ⟨fun i => if h : i < len then (key i h).choose else ⟨0, 0, 0, 0, false⟩, fun i hi => ?_⟩
   simp only [dif_pos hi]
   exact (key i hi).choose_spec
  refine ⟨some a, len, cap, (List.range len).map f, rfl, hl, hm, ⟨by simp, fun hp => ?_⟩, fun z hz => ?_⟩
  ·obtain ⟨b, o, rfl⟩ := addr_formM (v := .int .i64 (f 0).kind) (by have := (hf 0 hp).2 0 _ rfl; simpa using this)
   refine ⟨b, o, rfl, fun j z hz i u hu => ?_⟩
   rw [List.getElem?_map] at hz
   obtain ⟨k, hk, rfl⟩ := Option.map_eq_some_iff.1 hz
   have hjl := (List.getElem?_eq_some_iff.1 hk)
   obtain ⟨hj, hjk⟩ := hjl
   rw [List.getElem_range] at hjk
   subst hjk
   have h := (hf j (by simpa using hj)).2 i u hu
   rw [Addr.add_lit] at h
   rw [show o + j * 5 + i = o + (j * 5 + i) by omega]
   exact h
  ·obtain ⟨i, hi, rfl⟩ := List.mem_map.1 hz
   exact (hf i (List.mem_range.1 hi)).1
end Go.Proofs.YtlffopdoeobgaaaGreatDoor
end
section
namespace Go.Proofs.YtlffopdoeobgaaaGreatDoor
open Go Go.RowKit
attribute [local go_sem ↓] Go.wp_at_zero Go.wp_at_succ
theorem elemM : Tryz.prog.underlying 25 = some (.slice (Tryz.prog.elem 25)) := by kernel_rfl
theorem sizeM (W : World) : (sizeOf (Tryz.prog.elem 25)).run Tryz.prog W = .ok 5 W := by kernel_rfl
theorem cutM_lo {w : World} {A : Option Addr} {n c : Nat} {ms : List Mv} (h : MvsA w A n ms) {k : Nat} (hk : k ≤ n) (hc : n ≤ c) :
 ∃ A1 : Option Addr, MvsA w A1 k (ms.take k) ∧ ∀ W : World, (Instr.slice 25 (.slice A n c) none (some (.int .i64 (k : Int))) none).run Tryz.prog W = .ok (.slice A1 k c) W := by
 have hl := h.1
 refine ⟨if c = 0 then A else A.map (·.add (0 * 5)), ⟨by simp; omega, fun hp => ?_⟩, fun W => ?_⟩
 ·obtain ⟨b, o, rfl, hx⟩ := h.2 (by omega)
  rw [if_neg (by omega)]
  refine ⟨b, o, by simp [Addr.add_lit], fun j z hz i u hu => hx j z ?_ i u hu⟩
  rw [List.getElem?_take] at hz
  split at hz
  ·exact hz
  ·cases hz
 ·rw [run_slice_h W 25 A n c elemM .i64 (k : Int) (by omega) (by omega), sizeM]
  rfl
theorem cutM_hi {w : World} {A : Option Addr} {n c : Nat} {ms : List Mv} (h : MvsA w A n ms) {k : Nat} (hk : k ≤ n) (hc : n ≤ c) :
 ∃ A1 : Option Addr, MvsA w A1 (n - k) (ms.drop k) ∧ ∀ W : World, (Instr.slice 25 (.slice A n c) (some (.int .i64 (k : Int))) none none).run Tryz.prog W = .ok (.slice A1 (n - k) (c - k)) W := by
 have hl := h.1
 refine ⟨if c = k then A else A.map (·.add (k * 5)), ⟨by simp; omega, fun hp => ?_⟩, fun W => ?_⟩
 ·obtain ⟨b, o, rfl, hx⟩ := h.2 (by omega)
  rw [if_neg (by omega)]
  refine ⟨b, o + k * 5, by simp [Addr.add_lit], fun j z hz i u hu => ?_⟩
  rw [List.getElem?_drop] at hz
  rw [show o + k * 5 + j * 5 + i = o + (k + j) * 5 + i by omega]
  exact hx _ z hz i u hu
 ·rw [run_slice_l W 25 A n c elemM .i64 (k : Int) (by omega) (by omega), sizeM]
  rfl
theorem apN_take : ∀ (ms : List Mv) (d : Pl.Dg) (k : Nat), k ≤ ms.length → apN d (ms.take k) k = apN d ms k
 | _, _, 0, _ => by simp [apN]
 | [], _, k + 1, h => absurd h (by simp)
 | z :: ms, d, k + 1, h => by simp only [List.take_succ_cons, apN]; exact apN_take ms _ k (by simpa using h)
theorem apN_takeL (ms : List Mv) (d : Pl.Dg) {j k : Nat} (hj : j ≤ k) (hk : k ≤ ms.length) : apN d (ms.take k) j = apN d ms j := by
 have h := apN_take (ms.take k) d j (by simp; omega)
 rw [List.take_take, Nat.min_eq_left hj] at h
 rw [← h]
 exact apN_take ms d j (by omega)
theorem below_drB {w w' : World} {o : Obj} (h : Below (w.drew.alloc o).heap.size (w.drew.alloc o) w') : Below w.heap.size w w' := by
 have b : Below w.heap.size w (w.drew.alloc o) := (Below.refl w.heap.size w).drew.alloc (Nat.le_refl _) o
 exact b.trans (h.mono b.size)
end Go.Proofs.YtlffopdoeobgaaaGreatDoor
end
section
namespace Go.Proofs.YtlffopdoeobgaaaGreatDoor
open Go Go.RowKit
attribute [local go_sem ↓] Go.wp_at_zero Go.wp_at_succ
theorem apN_drop : ∀ (ms : List Mv) (d : Pl.Dg) (k j : Nat), k ≤ ms.length → apN (apN d ms k) (ms.drop k) j = apN d ms (k + j)
 | ms, d, 0, j, _ => by
   have e : apN d ms 0 = d := by cases ms <;> rfl
   rw [e, List.drop_zero, Nat.zero_add]
 | [], d, k + 1, j, h => absurd h (by simp)
 | z :: ms, d, k + 1, j, h => by
   show apN (apN (apD d z) ms k) (ms.drop k) j = _
   rw [apN_drop ms _ k j (by simpa using h), show k + 1 + j = (k + j) + 1 by omega]
   rfl
theorem lgl_take {d : Pl.Dg} {ms : List Mv} {k : Nat} (hk : k ≤ ms.length) (h : ∀ j y, j < k → ms[j]? = some y → apC (apN d ms j) y = 0) : Lgl d (ms.take k) := by
 intro j y hy
 have hj : j < k := by
  have := (List.getElem?_eq_some_iff.1 hy).1
  rw [List.length_take] at this
  omega
 rw [List.getElem?_take, if_pos hj] at hy
 rw [apN_takeL ms d (Nat.le_of_lt hj) hk]
 exact h j y hj hy
theorem lgl_drop {d : Pl.Dg} {ms : List Mv} {k : Nat} (hk : k ≤ ms.length) (h : Lgl d ms) : Lgl (apN d ms k) (ms.drop k) := by
 intro j y hy
 rw [apN_drop ms d k j hk]
 rw [List.getElem?_drop] at hy
 exact h _ _ hy
theorem flt_take {d : Pl.Dg} {ms : List Mv} {k j : Nat} {z : Mv} (hk : k ≤ ms.length) (h : Flt1 d ms j z) (hj : j < k) : Flt1 d (ms.take k) j z := by
 refine ⟨by rw [List.getElem?_take, if_pos hj]; exact h.1, fun i y hi hy => ?_, ?_⟩
 ·rw [List.getElem?_take, if_pos (by omega)] at hy
  rw [apN_takeL ms d (by omega) hk]
  exact h.2.1 i y hi hy
 ·rw [apN_takeL ms d (by omega) hk]
  exact h.2.2
theorem flt_drop {d : Pl.Dg} {ms : List Mv} {k j : Nat} {z : Mv} (hk : k ≤ ms.length) (h : Flt1 d ms j z) (hj : k ≤ j) : Flt1 (apN d ms k) (ms.drop k) (j - k) z := by
 refine ⟨by rw [List.getElem?_drop, Nat.add_sub_cancel' hj]; exact h.1, fun i y hi hy => ?_, ?_⟩
 ·rw [List.getElem?_drop] at hy
  rw [apN_drop ms d k i hk]
  exact h.2.1 _ y (by omega) hy
 ·rw [apN_drop ms d k _ hk, Nat.add_sub_cancel' hj]
  exact h.2.2
def JoinPost (r : Pl.Dg) (w : World) (e : Ending) (w' : World) : Prop :=
 ∃ (A B : Option Addr) (c1 c2 n m lp : Nat), n = r.n ∧ m = 4 * n ∧ lp = r.lp ∧ Pl.Valid r ∧ e = .returned (.tuple #[.agg #[.slice A n c1, .slice B m c2, .int .i64 (lp : Int)], .int .i64 0]) ∧ DgT w' A B r ∧ Below w.heap.size w w'
def JoinErr (c : Int) (w : World) (e : Ending) (w' : World) : Prop := e = .returned (.tuple #[.agg #[.slice none 0 0, .slice none 0 0, .int .i64 0], .int .i64 c]) ∧ Below w.heap.size w w'
set_option maxRecDepth 100000 in
set_option maxHeartbeats 4000000 in
theorem join_yes (d : Pl.Dg) (hd : Pl.Valid d) (A B C D : Option Addr) (cp cq m na ca nb cb : Nat) (la bs : List Mv) (w : World) (hm : m = 4 * d.n) (hg : DgAt w A B d) (hc : MvsA w C na la) (hc2 : MvsA w D nb bs) (hna : na ≤ 10000) (hnb : nb ≤ 10000) (hl : Lgl d la) (hl2 : Lgl (apN d la la.length) bs) (r : Pl.Dg) (hr : r = apN (apN d la la.length) bs bs.length) :
 Calls Tryz.prog 23 #[.agg #[.slice A d.n cp, .slice B m cq, .int .i64 d.lp], .slice C na ca, .slice D nb cb] w (JoinPost r w) := by
 have HP := hide (fun (w : World) hg hc => play_leads d hd A B C cp cq m na ca la w hm hg hc hna hl)
 obtain ⟨x, hx⟩ : ∃ x, x = apN d la la.length := ⟨_, rfl⟩
 rw [← hx] at hl2 HP hr
 clear hx
 have HM := hide hm
 have HG := hide hg
 have HCS := hide hc
 have HCT := hide hc2
 have R0 := hide ((row_at (W := w) (g := w.heap.size) (t := 24) (vs := [.slice A d.n cp, .slice B m cq, .int .i64 (d.lp : Int)]) rfl).alloc (.cells #[.slice none 0 0, .slice none 0 0, .int .i64 0] 24))
 have S0 := hide (row_at (W := w.alloc (.cells #[.slice A d.n cp, .slice B m cq, .int .i64 (d.lp : Int)] 24)) (g := w.heap.size + 1) (t := 24) (vs := [.slice none 0 0, .slice none 0 0, .int .i64 0]) (by simp))
 have B0 := hide (show Below w.heap.size w ((w.alloc (.cells #[.slice A d.n cp, .slice B m cq, .int .i64 (d.lp : Int)] 24)).alloc (.cells #[.slice none 0 0, .slice none 0 0, .int .i64 0] 24)) from ((Below.refl _ _).alloc (Nat.le_refl _) _).alloc (by simp) _)
 clear hm hg hc hc2
 obtain ⟨d0, d1, d2, d3⟩ := box3 R0.out
 obtain ⟨e0, e1, e2, e3⟩ := box3 S0.out
 go_enter Tryz.func23, Tryz.ntmps23
 go_wp2_with fail
 refine (HP.out _ (HG.out.keep B0.out) (HCS.out.keep B0.out)).mono ?_
 rintro e w1 ⟨A1, E1, C1, c1, c2, c3, n1, m1, lp1, b1, hn1, hm1, hlp1, hv1, rfl, hT1, hO1, hb1⟩
 subst hn1 hlp1
 have S1 := hide (S0.out.below hb1)
 have B1 := hide (B0.out.trans (hb1.mono B0.out.size))
 have T1 := hide hT1
 have HV1 := hide hv1
 have HM1 := hide hm1
 clear hO1 hT1 hb1 d0 d1 d2 d3 e0 e1 e2 e3 R0 S0 B0 hv1 hm1
 have b2 : Below w1.heap.size w1 (w1.alloc (.cells #[.slice A1 x.n c1, .slice E1 m1 c2, .int .i64 (x.lp : Int)] 24)) := (Below.refl _ _).alloc (Nat.le_refl _) _
 have S2 := hide (S1.out.below b2)
 have T2 := hide (T1.out.keep b2)
 have B2 := hide (B1.out.trans (b2.mono B1.out.size))
 clear b2 S1 T1 B1
 go_wp2_with fail
 refine (play_leads x HV1.out A1 E1 D c1 c2 m1 nb cb bs _ HM1.out T2.out.at (HCT.out.keep B2.out) hnb hl2).mono ?_
 rintro e w3 ⟨A3, E3, C3, k1, k2, k3, n3, m3, lp3, b3, hn3, hm3, hlp3, hv3, rfl, hT3, hO3, hb3⟩
 rw [← hr] at hn3 hlp3 hv3 hT3
 have HN3 := hide hn3
 have HM3 := hide hm3
 have HL3 := hide hlp3
 have HV3 := hide hv3
 have T3 := hide hT3
 have S3 := hide (S2.out.below hb3)
 have B3 := hide (B2.out.trans (hb3.mono B2.out.size))
 clear hn3 hm3 hlp3 hv3 hT3 hO3 hb3 S2 T2 B2 hr
 have S4 := hide (S3.out.alloc (.cells #[.slice A3 n3 k1, .slice E3 m3 k2, .int .i64 (lp3 : Int)] 24))
 have b4 : Below w3.heap.size w3 (w3.alloc (.cells #[.slice A3 n3 k1, .slice E3 m3 k2, .int .i64 (lp3 : Int)] 24)) := (Below.refl _ _).alloc (Nat.le_refl _) _
 have T4 := hide (T3.out.keep b4)
 have B4 := hide (B3.out.trans (b4.mono B3.out.size))
 have hgw : w.heap.size + 1 ≠ w3.heap.size := by have := S3.out.lt; omega
 clear b4 S3 T3 B3
 obtain ⟨e0, e1, e2, e3⟩ := box3 S4.out
 obtain ⟨q0, q1, q2, q3⟩ := box3 (row3 S4.out rfl (.slice A3 n3 k1) (.slice E3 m3 k2) (.int .i64 (lp3 : Int)))
 go_wp2_with fail
 refine bodyPost_ret (v := .tuple #[.agg #[.slice A3 n3 k1, .slice E3 m3 k2, .int .i64 (lp3 : Int)], .int .i64 0]) (by simp [results, Tryz.results23, go_sem, q0, q1, q2]) rfl ?_
 exact ⟨A3, E3, k1, k2, n3, m3, lp3, HN3.out, HM3.out, HL3.out, HV3.out, rfl, T4.out.set3 S4.out _ _ _, below3 B4.out (by omega) _ _ _⟩
set_option maxRecDepth 100000 in
set_option maxHeartbeats 4000000 in
theorem join_f2 (d : Pl.Dg) (hd : Pl.Valid d) (A B C D : Option Addr) (cp cq m na ca nb cb : Nat) (la bs : List Mv) (w : World) (hm : m = 4 * d.n) (hg : DgAt w A B d) (hc : MvsA w C na la) (hc2 : MvsA w D nb bs) (hna : na ≤ 10000) (hnb : nb ≤ 10000) (hl : Lgl d la) {j : Nat} {z : Mv} (hl2 : Flt1 (apN d la la.length) bs j z) :
 Calls Tryz.prog 23 #[.agg #[.slice A d.n cp, .slice B m cq, .int .i64 d.lp], .slice C na ca, .slice D nb cb] w (JoinErr (apC (apN (apN d la la.length) bs j) z) w) := by
 have HP := hide (fun (w : World) hg hc => play_leads d hd A B C cp cq m na ca la w hm hg hc hna hl)
 obtain ⟨x, hx⟩ : ∃ x, x = apN d la la.length := ⟨_, rfl⟩
 rw [← hx] at hl2 HP ⊢
 clear hx
 obtain ⟨ce, hce⟩ : ∃ c, c = apC (apN x bs j) z := ⟨_, rfl⟩
 rw [← hce]
 have HM := hide hm
 have HG := hide hg
 have HCS := hide hc
 have HCT := hide hc2
 have R0 := hide ((row_at (W := w) (g := w.heap.size) (t := 24) (vs := [.slice A d.n cp, .slice B m cq, .int .i64 (d.lp : Int)]) rfl).alloc (.cells #[.slice none 0 0, .slice none 0 0, .int .i64 0] 24))
 have S0 := hide (row_at (W := w.alloc (.cells #[.slice A d.n cp, .slice B m cq, .int .i64 (d.lp : Int)] 24)) (g := w.heap.size + 1) (t := 24) (vs := [.slice none 0 0, .slice none 0 0, .int .i64 0]) (by simp))
 have B0 := hide (show Below w.heap.size w ((w.alloc (.cells #[.slice A d.n cp, .slice B m cq, .int .i64 (d.lp : Int)] 24)).alloc (.cells #[.slice none 0 0, .slice none 0 0, .int .i64 0] 24)) from ((Below.refl _ _).alloc (Nat.le_refl _) _).alloc (by simp) _)
 clear hm hg hc hc2
 obtain ⟨d0, d1, d2, d3⟩ := box3 R0.out
 obtain ⟨e0, e1, e2, e3⟩ := box3 S0.out
 go_enter Tryz.func23, Tryz.ntmps23
 go_wp2_with fail
 refine (HP.out _ (HG.out.keep B0.out) (HCS.out.keep B0.out)).mono ?_
 rintro e w1 ⟨A1, E1, C1, c1, c2, c3, n1, m1, lp1, b1, hn1, hm1, hlp1, hv1, rfl, hT1, hO1, hb1⟩
 subst hn1 hlp1
 have S1 := hide (S0.out.below hb1)
 have B1 := hide (B0.out.trans (hb1.mono B0.out.size))
 have T1 := hide hT1
 have HV1 := hide hv1
 have HM1 := hide hm1
 clear hO1 hT1 hb1 d0 d1 d2 d3 e0 e1 e2 e3 R0 S0 B0 hv1 hm1
 have b2 : Below w1.heap.size w1 (w1.alloc (.cells #[.slice A1 x.n c1, .slice E1 m1 c2, .int .i64 (x.lp : Int)] 24)) := (Below.refl _ _).alloc (Nat.le_refl _) _
 have S2 := hide (S1.out.below b2)
 have T2 := hide (T1.out.keep b2)
 have B2 := hide (B1.out.trans (b2.mono B1.out.size))
 clear b2 S1 T1 B1
 go_wp2_with fail
 refine (play_fault x HV1.out A1 E1 D c1 c2 m1 nb cb bs _ HM1.out T2.out.at (HCT.out.keep B2.out) hnb hl2).mono ?_
 rintro e w3 ⟨rfl, hb3⟩
 rw [← hce]
 have S3 := hide (S2.out.below hb3)
 have B3 := hide (B2.out.trans (hb3.mono B2.out.size))
 clear hb3 S2 T2 B2 hce
 have S4 := hide (S3.out.alloc (.cells #[.slice none 0 0, .slice none 0 0, .int .i64 0] 24))
 have b4 : Below w3.heap.size w3 (w3.alloc (.cells #[.slice none 0 0, .slice none 0 0, .int .i64 0] 24)) := (Below.refl _ _).alloc (Nat.le_refl _) _
 have B4 := hide (B3.out.trans (b4.mono B3.out.size))
 have hgw : w.heap.size + 1 ≠ w3.heap.size := by have := S3.out.lt; omega
 clear b4 S3 B3
 obtain ⟨e0, e1, e2, e3⟩ := box3 S4.out
 obtain ⟨q0, q1, q2, q3⟩ := box3 (row3 S4.out rfl (.slice none 0 0) (.slice none 0 0) (.int .i64 0))
 go_wp2_with fail
 refine bodyPost_ret (v := .tuple #[.agg #[.slice none 0 0, .slice none 0 0, .int .i64 0], .int .i64 ce]) (by simp [results, Tryz.results23, go_sem, q0, q1, q2]) rfl ?_
 exact ⟨rfl, below3 B4.out (by omega) _ _ _⟩
set_option maxRecDepth 100000 in
set_option maxHeartbeats 4000000 in
theorem join_f1 (d : Pl.Dg) (hd : Pl.Valid d) (A B C D : Option Addr) (cp cq m na ca nb cb : Nat) (la bs : List Mv) (w : World) (hm : m = 4 * d.n) (hg : DgAt w A B d) (hc : MvsA w C na la) (hc2 : MvsA w D nb bs) (hna : na ≤ 10000) (hnb : nb ≤ 10000) {j : Nat} {z : Mv} (hl : Flt1 d la j z) :
 Calls Tryz.prog 23 #[.agg #[.slice A d.n cp, .slice B m cq, .int .i64 d.lp], .slice C na ca, .slice D nb cb] w (JoinErr (apC (apN d la j) z) w) := by
 have HP := hide (fun (w : World) hg hc => play_fault d hd A B C cp cq m na ca la w hm hg hc hna hl)
 have hce0 := hl.2.2
 obtain ⟨ce, hce⟩ : ∃ c, c = apC (apN d la j) z := ⟨_, rfl⟩
 rw [← hce] at HP hce0 ⊢
 have hcen : (ce != 0) = true := by rw [bne_iff_ne]; exact hce0
 have hceb : (ce == 0) = false := by rw [beq_eq_false_iff_ne]; exact hce0
 clear hce
 have HM := hide hm
 have HG := hide hg
 have HCS := hide hc
 have HCT := hide hc2
 have R0 := hide ((row_at (W := w) (g := w.heap.size) (t := 24) (vs := [.slice A d.n cp, .slice B m cq, .int .i64 (d.lp : Int)]) rfl).alloc (.cells #[.slice none 0 0, .slice none 0 0, .int .i64 0] 24))
 have S0 := hide (row_at (W := w.alloc (.cells #[.slice A d.n cp, .slice B m cq, .int .i64 (d.lp : Int)] 24)) (g := w.heap.size + 1) (t := 24) (vs := [.slice none 0 0, .slice none 0 0, .int .i64 0]) (by simp))
 have B0 := hide (show Below w.heap.size w ((w.alloc (.cells #[.slice A d.n cp, .slice B m cq, .int .i64 (d.lp : Int)] 24)).alloc (.cells #[.slice none 0 0, .slice none 0 0, .int .i64 0] 24)) from ((Below.refl _ _).alloc (Nat.le_refl _) _).alloc (by simp) _)
 clear hm hg hc hc2
 obtain ⟨d0, d1, d2, d3⟩ := box3 R0.out
 obtain ⟨e0, e1, e2, e3⟩ := box3 S0.out
 go_enter Tryz.func23, Tryz.ntmps23
 go_wp2_with fail
 refine (HP.out _ (HG.out.keep B0.out) (HCS.out.keep B0.out)).mono ?_
 rintro e w3 ⟨rfl, hb3⟩
 have S3 := hide (S0.out.below hb3)
 have B3 := hide (B0.out.trans (hb3.mono B0.out.size))
 clear hb3 d0 d1 d2 d3 e0 e1 e2 e3 R0 S0 B0
 have S4 := hide (S3.out.alloc (.cells #[.slice none 0 0, .slice none 0 0, .int .i64 0] 24))
 have b4 : Below w3.heap.size w3 (w3.alloc (.cells #[.slice none 0 0, .slice none 0 0, .int .i64 0] 24)) := (Below.refl _ _).alloc (Nat.le_refl _) _
 have B4 := hide (B3.out.trans (b4.mono B3.out.size))
 have hgw : w.heap.size + 1 ≠ w3.heap.size := by have := S3.out.lt; omega
 clear b4 S3 B3
 obtain ⟨e0, e1, e2, e3⟩ := box3 S4.out
 obtain ⟨q0, q1, q2, q3⟩ := box3 (row3 S4.out rfl (.slice none 0 0) (.slice none 0 0) (.int .i64 0))
 go_wp2_with fail
 refine bodyPost_ret (v := .tuple #[.agg #[.slice none 0 0, .slice none 0 0, .int .i64 0], .int .i64 ce]) (by simp [results, Tryz.results23, go_sem, q0, q1, q2]) rfl ?_
 exact ⟨rfl, below3 B4.out (by omega) _ _ _⟩
end Go.Proofs.YtlffopdoeobgaaaGreatDoor
end
