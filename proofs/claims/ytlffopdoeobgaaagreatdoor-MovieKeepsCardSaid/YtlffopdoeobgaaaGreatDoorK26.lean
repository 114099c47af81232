/-
 The texts Nn, Np, Nq in one.
-/
import Derived.Test.YtlffopdoeobgaaaGreatDoorK25
import Derived.Test.YtlffopdoeobgaaaGreatDoorK23
import Derived.Test.YtlffopdoeobgaaaGreatDoorK20
import Derived.Test.YtlffopdoeobgaaaGreatDoorRows
import Derived.Deep.Slices
import Derived.Deep.Fields
import Derived.ChangeSame
import Derived.Stop.LaidErr
import Derived.Lib.LaidTab
import Derived.Test.YtlffopdoeobgaaaGreatDoorK24
import Derived.Test.YtlffopdoeobgaaaGreatDoorK03
set_option linter.unusedVariables false
set_option linter.unusedSimpArgs false
section
namespace Go.Proofs.YtlffopdoeobgaaaGreatDoor
open Go Go.RowKit
attribute [local go_sem ↓] Go.wp_at_zero Go.wp_at_succ
theorem own_form {w : World} {base n : Nat} {v : Value} {ms : List Mv} (h : w.ownsRow base 36 5 v n (mvs ms)) (hn : n = ms.length) (hp : 0 < n) : ∃ g c, v = .slice (some ⟨g, 0, none⟩) n c ∧ MvsA w (some ⟨g, 0, none⟩) n ms := by
 obtain ⟨g, cap, hA, _, _⟩ := World.ownsRow.form h hp
 subst hA
 exact ⟨g, cap, rfl, (movesV_own h hn).a⟩
theorem lon_1 : apD lon ⟨1, -1, 0, 1, false⟩ = ⟨[1], [1, 0, 3, 2], 0⟩ := by rfl
theorem lon_2 : apD ⟨[1], [1, 0, 3, 2], 0⟩ ⟨2, 0, 0, 0, false⟩ = lon := by rfl
theorem lon_c1 : apC lon ⟨1, -1, 0, 1, false⟩ = 0 := by
 unfold apC
 rw [Pl.vb_true (show inR lon.n ⟨1, -1, 0, 1, false⟩ by unfold inR lon; simp [Pl.Dg.n])]
 rfl
theorem lon_c2 : apC ⟨[1], [1, 0, 3, 2], 0⟩ ⟨2, 0, 0, 0, false⟩ = 0 := by
 unfold apC
 rw [Pl.vb_true (show inR (Pl.Dg.n ⟨[1], [1, 0, 3, 2], 0⟩) ⟨2, 0, 0, 0, false⟩ by unfold inR; simp [Pl.Dg.n])]
 rfl
theorem lon_l : Lgl lon [⟨1, -1, 0, 1, false⟩, ⟨2, 0, 0, 0, false⟩] := by
 intro j y h
 match j, h with
 | 0, h => injection h with h; subst h; exact lon_c1
 | 1, h => injection h with h; subst h; show apC (apD lon ⟨1, -1, 0, 1, false⟩) _ = 0; rw [lon_1]; exact lon_c2
 | j + 2, h => simp at h
theorem lon_e : apN lon [⟨1, -1, 0, 1, false⟩, ⟨2, 0, 0, 0, false⟩] 2 = lon := by
 show apD (apD lon ⟨1, -1, 0, 1, false⟩) ⟨2, 0, 0, 0, false⟩ = lon
 rw [lon_1, lon_2]
theorem apg_1 : ApG lon ⟨1, -1, 0, 1, false⟩ := by
 have hin : inR lon.n ⟨1, -1, 0, 1, false⟩ := by unfold inR lon; simp [Pl.Dg.n]
 refine ⟨fun A B n cp cq m lp w hn hm hl hg => ?_, fun _ => ?_, fun _ f hf => ?_⟩
 ·subst hn hl
  rw [lon_c1]
  exact apply_1 lon lon_ok A B cp cq m (-1) 0 1 false w hm hg hin
 ·exact crl_loop lon_ok (.inl rfl) (by decide) (by decide)
 ·show StOk 0 1 ⟨⟨1, -1, 0, 1, false⟩, ⟨2, 0, 0, 0, false⟩, f⟩
  unfold StOk TrIn
  simp
theorem one_ok : Pl.Valid ⟨[1], [1, 0, 3, 2], 0⟩ := by
 rw [← lon_1]
 exact apg_1.ok lon_c1
theorem apg_2 : ApG ⟨[1], [1, 0, 3, 2], 0⟩ ⟨2, 0, 0, 0, false⟩ := by
 have hin : inR (Pl.Dg.n ⟨[1], [1, 0, 3, 2], 0⟩) ⟨2, 0, 0, 0, false⟩ := by unfold inR; simp [Pl.Dg.n]
 refine ⟨fun A B n cp cq m lp w hn hm hl hg => ?_, fun _ => ?_, fun _ f hf => ?_⟩
 ·subst hn hl
  rw [lon_c2]
  exact apply_2 _ one_ok A B cp cq m 0 0 0 false w hm hg hin
 ·rw [lon_2]; exact lon_ok
 ·rw [lon_2]
  show StOk 1 0 ⟨⟨2, 0, 0, 0, false⟩, ⟨1, -1, 0, 1, false⟩, f⟩
  unfold StOk TrIn
  simp
theorem apg_lone (k : Nat) (z : Mv) (hz : [(⟨1, -1, 0, 1, false⟩ : Mv), ⟨2, 0, 0, 0, false⟩][k]? = some z) : ApG (apN lon [⟨1, -1, 0, 1, false⟩, ⟨2, 0, 0, 0, false⟩] k) z := by
 match k, hz with
 | 0, hz => injection hz with hz; subst hz; exact apg_1
 | 1, hz => injection hz with hz; subst hz; show ApG (apD lon ⟨1, -1, 0, 1, false⟩) _; rw [lon_1]; exact apg_2
 | k + 2, hz => simp at hz
theorem play_lone (C : Option Addr) (cc : Nat) (w : World) (hc : MvsA w C 2 [⟨1, -1, 0, 1, false⟩, ⟨2, 0, 0, 0, false⟩]) :
 Calls Tryz.prog 13 #[.agg #[.slice none 0 0, .slice none 0 0, .int .i64 1], .slice C 2 cc] w fun e w' => ∃ (A B C : Option Addr) (c1 c2 c3 : Nat),
 e = .returned (.tuple #[.agg #[.slice A 0 c1, .slice B 0 c2, .int .i64 1], .slice C 2 c3, .int .i64 (-1), .int .i64 0]) ∧ Below w.heap.size w w' := by
 refine (play_gen lon lon_ok none none C 0 0 0 2 cc _ w rfl (lon_at _ _ _) hc (by decide) (fun k z hz _ => apg_lone k z hz)).mono ?_
 intro e w' h
 obtain ⟨A1, B1, C1, c1, c2, c3, n1, m1, lp1, bs, h1, h2, h3, h4, h5, h6, h7⟩ := h.2.1 lon_l
 have he : apN lon [⟨1, -1, 0, 1, false⟩, ⟨2, 0, 0, 0, false⟩] ([⟨1, -1, 0, 1, false⟩, ⟨2, 0, 0, 0, false⟩] : List Mv).length = lon := lon_e
 rw [he] at h1 h3
 subst h1 h3
 subst h2
 exact ⟨A1, B1, C1, c1, c2, c3, h5, h.2.2⟩
set_option maxRecDepth 100000 in
set_option maxHeartbeats 4000000 in
theorem leads_lone (C : Option Addr) (cc : Nat) (w : World) (hc : MvsA w C 2 [⟨1, -1, 0, 1, false⟩, ⟨2, 0, 0, 0, false⟩]) :
 Calls Tryz.prog 16 #[.agg #[.slice none 0 0, .slice none 0 0, .int .i64 1], .slice C 2 cc, .agg #[.slice none 0 0, .slice none 0 0, .int .i64 1]] w fun e w' => e = .returned (.bool true) ∧ Below w.heap.size w w' := by
 have HCS := hide hc
 have R0 := hide ((row_at (W := w) (g := w.heap.size) (t := 24) (vs := [.slice none 0 0, .slice none 0 0, .int .i64 1]) rfl).alloc (.cells #[.slice none 0 0, .slice none 0 0, .int .i64 1] 24))
 have S0 := hide (row_at (W := w.alloc (.cells #[.slice none 0 0, .slice none 0 0, .int .i64 1] 24)) (g := w.heap.size + 1) (t := 24) (vs := [.slice none 0 0, .slice none 0 0, .int .i64 1]) (by simp))
 have B0 := hide (show Below w.heap.size w ((w.alloc (.cells #[.slice none 0 0, .slice none 0 0, .int .i64 1] 24)).alloc (.cells #[.slice none 0 0, .slice none 0 0, .int .i64 1] 24)) from ((Below.refl _ _).alloc (Nat.le_refl _) _).alloc (by simp) _)
 clear hc
 obtain ⟨d0, d1, d2, d3⟩ := box3 R0.out
 obtain ⟨e0, e1, e2, e3⟩ := box3 S0.out
 go_enter Tryz.func16, Tryz.ntmps16
 go_wp2_with fail
 refine (play_lone C cc _ (HCS.out.keep B0.out)).mono ?_
 rintro e w1 ⟨A1, E1, C1, c1, c2, c3, rfl, hb1⟩
 have S1 := hide (S0.out.below hb1)
 have B1 := hide (B0.out.trans (hb1.mono B0.out.size))
 clear hb1 d0 d1 d2 d3 e0 e1 e2 e3 R0 S0 B0
 obtain ⟨e0, e1, e2, e3⟩ := box3 (S1.out.alloc (.cells #[.slice A1 0 c1, .slice E1 0 c2, .int .i64 1] 24))
 go_wp2_with fail
 have b2 : Below w1.heap.size w1 (w1.alloc (.cells #[.slice A1 0 c1, .slice E1 0 c2, .int .i64 1] 24)) := (Below.refl _ _).alloc (Nat.le_refl _) _
 refine (same_lone A1 E1 none none c1 c2 0 0 _).mono ?_
 rintro e w3 ⟨rfl, hb3⟩
 have B3 := hide ((B1.out.trans (b2.mono B1.out.size)).trans (hb3.mono (B1.out.trans (b2.mono B1.out.size)).size))
 clear hb3 b2
 go_wp2_with fail
 go_ret
 exact ⟨rfl, B3.out⟩
set_option maxRecDepth 100000 in
set_option maxHeartbeats 4000000 in
theorem awake09 (w : World) (hg : GV w) : Calls Tryz.prog 11 #[] w fun e w' => e = .returned (.bool true) ∧ Below w.heap.size w w' := by
 have HG := hide hg
 clear hg
 go_enter Tryz.func11, Tryz.ntmps11
 go_wp2_with fail
 refine (mparse_any ⟨#[99, 117, 114, 108, 32, 45, 49, 32, 49, 32, 117, 110, 100, 101, 114, 10, 117, 110, 99, 117, 114, 108, 32, 48, 10]⟩ (by decide) _ HG.out).mono ?_
 rintro e w1 ⟨_, hp, hb1⟩
 obtain ⟨v, rfl, ho⟩ := hp _ eg_a
 obtain ⟨g1, c1, rfl, hms⟩ := own_form ho rfl (by decide)
 have M1 := hide hms
 have B1 := hide hb1
 have G1 := hide (HG.out.below hb1)
 clear hp ho hms hb1 HG
 have X1 := hide (row_at (W := w1) (g := w1.heap.size) (t := 24) (vs := [.slice none 0 0, .slice none 0 0, .int .i64 1]) rfl)
 have C1 := hide (show Below w1.heap.size w1 (w1.alloc (.cells #[.slice none 0 0, .slice none 0 0, .int .i64 1] 24)) from (Below.refl _ _).alloc (Nat.le_refl _) _)
 go_wp2_with fail
 refine (mparse_any ⟨#[112, 111, 107, 101, 32, 48, 32, 52, 32, 48, 32, 111, 118, 101, 114, 10]⟩ (by decide) _ (G1.out.below C1.out)).mono ?_
 rintro e w2 ⟨_, hp, hb2⟩
 obtain ⟨v, rfl, ho⟩ := hp _ eg_b
 obtain ⟨g2, c2, rfl, hms⟩ := own_form ho rfl (by decide)
 have M2 := hide hms
 have X2 := hide (X1.out.below hb2)
 have B2 := hide (B1.out.trans ((C1.out.trans (hb2.mono C1.out.size)).mono B1.out.size))
 have M12 := hide (M1.out.keep (C1.out.trans (hb2.mono C1.out.size)))
 clear hp ho hms hb2 M1 B1 X1 C1 G1
 obtain ⟨d0, d1, d2, d3⟩ := box3 X2.out
 go_wp2_with fail
 refine (leads_lone (some ⟨g1, 0, none⟩) c1 _ M12.out).mono ?_
 rintro e w3 ⟨rfl, hb3⟩
 obtain ⟨b, o, k, x, y, s, v, hA, hz, e0, e1, e2, e3, e4⟩ := (M2.out.keep hb3).at_ (j := 0) (by decide)
 injection hA with hA
 injection hA with hA1 hA2
 subst hA1 hA2
 simp only [List.getElem?_cons_zero, Option.some.injEq] at hz
 injection hz with z1 z2 z3 z4 z5
 subst z1 z2 z3 z4 z5
 have B3 := hide (B2.out.trans (hb3.mono B2.out.size))
 clear hb3 d0 d1 d2 d3
 go_wp2_with fail
 go_ret
 exact ⟨rfl, B3.out⟩
end Go.Proofs.YtlffopdoeobgaaaGreatDoor
end
section
namespace Go.Proofs.YtlffopdoeobgaaaGreatDoor
open Go Go.ChangeShapes Go.WideShapes Go.ChangeAt Go.RowKit Go.Deep
theorem star_err : "*" ++ "errors.errorString" = "*errors.errorString" := by decide
theorem row_err (u : TypeId) (h : Tryz.prog.typeName? 3 u = some "*errors.errorString") : u = 196 :=
 typeName_ptr_named (nm := "errors.errorString") (by rw [star_err]; kernel_rfl) (by kernel_rfl) (by decide) u (by rw [star_err]; exact h)
theorem gv_of7 {W : World} {t1 t2 t3 t4 : String × DataW Unit} (hm : ∃ m, W.cell? ⟨0, 0, none⟩ = some (.int .i64 m))
 (hL : laidMet Tryz.prog [t1, t2, ("internal/strconv.uint64pow10", Rows.laid_internal_strconv_uint64pow10), t3, ("strconv.ErrRange", Rows.laid_strconv_ErrRange), ("strconv.ErrSyntax", Rows.laid_strconv_ErrSyntax), t4] W) : GV W := by
 have h3 := hL.tail.tail
 have h4 := h3.tail.tail
 have h5 := h4.tail
 refine ⟨hm, ?_, ?_, ?_⟩
 ·exact Lib.tabIs_of_head (g := 3) (t := 200) (e := 182) (n := 20) (by kernel_rfl) (by kernel_rfl) (by kernel_rfl) (by kernel_rfl) (by kernel_rfl) (by kernel_rfl) (rest := _) h3
 ·obtain ⟨a1, s1, hv1, -, -, -⟩ := laid_sentinel h5 (g := 1) (ti := 83) (tp := 196) (te := 198) (ts := 9) (by kernel_rfl) (by kernel_rfl) Tryz.underlying83 row_err Tryz.underlying196 Tryz.underlying198 rfl rfl Tryz.underlying9 (by kernel_rfl) (by kernel_rfl)
  exact ⟨_, (by have h0 := World.var?_cell (P := Tryz.prog) (g := 1) (by kernel_rfl) hv1 0; simpa using h0), .inr ⟨_, _, rfl⟩⟩
 ·obtain ⟨a1, s1, hv1, -, -, -⟩ := laid_sentinel h4 (g := 2) (ti := 83) (tp := 196) (te := 198) (ts := 9) (by kernel_rfl) (by kernel_rfl) Tryz.underlying83 row_err Tryz.underlying196 Tryz.underlying198 rfl rfl Tryz.underlying9 (by kernel_rfl) (by kernel_rfl)
  exact ⟨_, (by have h0 := World.var?_cell (P := Tryz.prog) (g := 2) (by kernel_rfl) hv1 0; simpa using h0), .inr ⟨_, _, rfl⟩⟩
section
variable {H : Type} {enc : TypeId × Value → H} {P : Program} {w : World} {base : Nat} {spare : Nat → Bool} {held : Bool}
theorem open_slice_mv {t e : TypeId} {fs : Array Field} {fuel : Nat} {cs : List Value} {x : DataW H × List MemPlace} (ht : P.underlying t = some (.slice e)) (he : P.underlying e = some (.struct fs))
 (hone : oneCellFields P fs = true) (hC : P.cellsOf e = fs.size) (h : DataW.trod enc P w base spare held fuel t cs = some x) :
 (cs = [.slice none 0 0] ∧ x = (.nil, [])) ∨
 ∃ (a : Addr) (len cap m : Nat), cs = [.slice (some a) len cap] ∧ base ≤ a.block ∧ len ≤ cap ∧ cap ≤ maxLen ∧ m = (if spare a.block then cap else len) ∧
   ∀ i, i < m → ∃ (ys : List (DataW H × List MemPlace)) (n : Nat), ys.length = fs.size ∧
     ∀ (j : Nat) (f : Field), fs[j]? = some f → ∃ (v : Value) (y : DataW H × List MemPlace), w.cell? (a.add (i * fs.size + j)) = some v ∧ ys[j]? = some y ∧ DataW.trod enc P w base spare held n f.type [v] = some y := by
 rcases open_slice ht h with h0 | ⟨a, len, cap, m, n, D, Q, hcs, hb, hl, hm, hmm, hx, hi⟩
 ·exact .inl h0
 ·refine .inr ⟨a, len, cap, m, hcs, hb, hl, hm, hmm, fun i him => ?_⟩
  obtain ⟨cs', hc, ht'⟩ := hi i him
  rw [hC] at hc
  obtain ⟨ys, n', hn', hy, hlen, hyl, hf⟩ := DataW.trod_struct he ht'
  obtain ⟨_, hcl, hat⟩ := World.cells?_some hc
  refine ⟨ys, n', hyl, fun j f hj => ?_⟩
  obtain ⟨ho, hk⟩ := hone_of hone j f hj
  have hjl : j < fs.size := (Array.getElem?_eq_some_iff.1 hj).1
  have hcell := hat j hjl
  have hv : cs'[j]? = some (cs'[j]'(by omega)) := List.getElem?_eq_getElem (by omega)
  have h1 := hf j f hj
  rw [ho, hk] at h1
  have hone' : (cs'.drop j).take 1 = [cs'[j]'(by omega)] := by
   rw [List.drop_eq_getElem_cons (by omega)]
   rfl
  rw [hone'] at h1
  have hys : ys[j]? = some (ys[j]'(by omega)) := List.getElem?_eq_getElem (by omega)
  refine ⟨_, _, ?_, hys, h1.trans hys⟩
  rw [← Go.Deep.add_add, hcell, hv]
end
set_option maxRecDepth 100000 in
set_option maxHeartbeats 2000000 in
theorem open_mvs {H : Type} {enc : TypeId × Value → H} {w : World} {base : Nat} {spare : Nat → Bool} {held : Bool} {r : Reach} {b0 : Nat} {v : Value} {d : DataW H} {p : List MemPlace} (hval : Value.okWide Tryz.prog w r b0 25 v) (h : DataW.Trod enc Tryz.prog w base spare held 25 v d p) :
 ∃ (A : Option Addr) (n c : Nat) (ms : List Mv), v = .slice A n c ∧ n ≤ c ∧ c ≤ maxLen ∧ MvsA w A n ms ∧ ∀ m, m ∈ ms → MvIn m := by
 obtain ⟨A, len, cap, rfl⟩ := okWide_slice Tryz.underlying25 hval
 obtain ⟨fuel, hf⟩ := h
 have hf' : DataW.trod enc Tryz.prog w base spare held fuel 25 [.slice A len cap] = some (d, p) := hf
 rcases open_slice_mv Tryz.underlying25 Tryz.underlying36 (by kernel_rfl) (by kernel_rfl) hf' with ⟨h1, _⟩ | ⟨a, len', cap', m, h1, _, hl, hm, hmm, hi⟩
 ·obtain ⟨rfl, rfl, rfl⟩ : A = none ∧ len = 0 ∧ cap = 0 := by simpa using h1
  exact ⟨none, 0, 0, [], rfl, Nat.le_refl _, Nat.zero_le _, ⟨rfl, fun h => absurd h (by omega)⟩, fun m hm => by cases hm⟩
 ·obtain ⟨rfl, rfl, rfl⟩ : A = some a ∧ len = len' ∧ cap = cap' := by simpa using h1
  have hlm : len ≤ m := by rw [hmm]; split <;> omega
  have key : ∀ i, i < len → ∃ z : Mv, MvIn z ∧ ∀ (j : Nat) (u : Value), z.cells[j]? = some u → w.cell? (a.add (i * 5 + j)) = some u := by
   intro i hil
   obtain ⟨ys, n, hyl, hfld⟩ := hi i (by omega)
   obtain ⟨v0, y0, c0, _, t0⟩ := hfld 0 _ rfl
   obtain ⟨v1, y1, c1, _, t1⟩ := hfld 1 _ rfl
   obtain ⟨v2, y2, c2, _, t2⟩ := hfld 2 _ rfl
   obtain ⟨v3, y3, c3, _, t3⟩ := hfld 3 _ rfl
   obtain ⟨v4, y4, c4, _, t4⟩ := hfld 4 _ rfl
   obtain ⟨k, rfl, _⟩ := int_of_trod t0
   obtain ⟨x, rfl, hx⟩ := int_of_trod t1
   obtain ⟨y, rfl, hy⟩ := int_of_trod t2
   obtain ⟨s, rfl, hs⟩ := int_of_trod t3
   obtain ⟨o, rfl⟩ := bool_of_trod t4
   refine ⟨⟨k, x, y, s, o⟩, ⟨hx, hy, hs⟩, fun j u hu => ?_⟩
   match j, hu with
   | 0, hu => injection hu with hu; subst hu; exact c0
   | 1, hu => injection hu with hu; subst hu; exact c1
   | 2, hu => injection hu with hu; subst hu; exact c2
   | 3, hu => injection hu with hu; subst hu; exact c3
   | 4, hu => injection hu with hu; subst hu; exact c4
   | j + 5, hu => simp [Mv.cells] at hu
  obtain ⟨f, hf⟩ : ∃ f : Nat → Mv, ∀ i, i < len → MvIn (f i) ∧ ∀ (j : Nat) (u : Value), (f i).cells[j]? = some u → w.cell? (a.add (i * 5 + j)) = some u := by
   classical
   refine ⟨fun i => if h : i < len then (key i h).choose else ⟨0, 0, 0, 0, false⟩, fun i hi => ?_⟩
   simp only [dif_pos hi]
   exact (key i hi).choose_spec
  refine ⟨some a, len, cap, (List.range len).map f, rfl, hl, hm, ⟨by simp, fun hp => ?_⟩, fun z hz => ?_⟩
  ·obtain ⟨b, o, rfl⟩ := addr_formM (v := .int .i64 (f 0).kind) (by have := (hf 0 hp).2 0 _ rfl; simpa using this)
   refine ⟨b, o, rfl, fun j z hz i u hu => ?_⟩
   rw [List.getElem?_map] at hz
   obtain ⟨k, hk, rfl⟩ := Option.map_eq_some_iff.1 hz
   have hjl := (List.getElem?_eq_some_iff.1 hk)
   obtain ⟨hj, hjk⟩ := hjl
   rw [List.getElem_range] at hjk
   subst hjk
   have h := (hf j (by simpa using hj)).2 i u hu
   rw [Addr.add_lit] at h
   rw [show o + j * 5 + i = o + (j * 5 + i) by omega]
   exact h
  ·obtain ⟨i, hi, rfl⟩ := List.mem_map.1 hz
   exact (hf i (List.mem_range.1 hi)).1
end Go.Proofs.YtlffopdoeobgaaaGreatDoor
end
section
namespace Go.Proofs.YtlffopdoeobgaaaGreatDoor
open Go Go.RowKit
attribute [local go_sem ↓] Go.wp_at_zero Go.wp_at_succ
theorem elemM : Tryz.prog.underlying 25 = some (.slice (Tryz.prog.elem 25)) := by kernel_rfl
theorem sizeM (W : World) : (sizeOf (Tryz.prog.elem 25)).run Tryz.prog W = .ok 5 W := by kernel_rfl
theorem cutM_lo {w : World} {A : Option Addr} {n c : Nat} {ms : List Mv} (h : MvsA w A n ms) {k : Nat} (hk : k ≤ n) (hc : n ≤ c) :
 ∃ A1 : Option Addr, MvsA w A1 k (ms.take k) ∧ ∀ W : World, (Instr.slice 25 (.slice A n c) none (some (.int .i64 (k : Int))) none).run Tryz.prog W = .ok (.slice A1 k c) W := by
 have hl := h.1
 refine ⟨if c = 0 then A else A.map (·.add (0 * 5)), ⟨by simp; omega, fun hp => ?_⟩, fun W => ?_⟩
 ·obtain ⟨b, o, rfl, hx⟩ := h.2 (by omega)
  rw [if_neg (by omega)]
  refine ⟨b, o, by simp [Addr.add_lit], fun j z hz i u hu => hx j z ?_ i u hu⟩
  rw [List.getElem?_take] at hz
  split at hz
  ·exact hz
  ·cases hz
 ·rw [run_slice_h W 25 A n c elemM .i64 (k : Int) (by omega) (by omega), sizeM]
  rfl
theorem apN_take : ∀ (ms : List Mv) (d : Pl.Dg) (k : Nat), k ≤ ms.length → apN d (ms.take k) k = apN d ms k
 | _, _, 0, _ => by simp [apN]
 | [], _, k + 1, h => absurd h (by simp)
 | z :: ms, d, k + 1, h => by simp only [List.take_succ_cons, apN]; exact apN_take ms _ k (by simpa using h)
theorem apN_takeL (ms : List Mv) (d : Pl.Dg) {j k : Nat} (hj : j ≤ k) (hk : k ≤ ms.length) : apN d (ms.take k) j = apN d ms j := by
 have h := apN_take (ms.take k) d j (by simp; omega)
 rw [List.take_take, Nat.min_eq_left hj] at h
 rw [← h]
 exact apN_take ms d j (by omega)
theorem apN_comps (ms : List Mv) (d : Pl.Dg) (hd : Pl.Valid d) (hl : Lgl d ms) {T : Nat} (hT : strN d + d.lp = T) : ∀ k, k ≤ ms.length → Pl.Valid (apN d ms k) ∧ strN (apN d ms k) + (apN d ms k).lp = T
 | 0, _ => by
   have e : apN d ms 0 = d := by cases ms <;> rfl
   rw [e]
   exact ⟨hd, hT⟩
 | k + 1, h => by
   obtain ⟨z, hz⟩ : ∃ z, ms[k]? = some z := ⟨_, List.getElem?_eq_getElem (by omega)⟩
   have ih := apN_comps ms d hd hl hT k (by omega)
   rw [apN_succ _ _ _ _ hz]
   have ha := ap_ok ih.1 (hl k z hz)
   exact ⟨ha.1, (ha.2 _ _ (strN_str _ ih.1.wf) (strN_str _ ha.1.wf)).symm.trans ih.2⟩
theorem valid_T (d : Pl.Dg) (hd : Pl.Valid d) (A B : Option Addr) (n cp cq m lp : Nat) (w : World) (hm : m = 4 * d.n) (hg : DgAt w A B d) (h1 : n = d.n) (h2 : lp = d.lp) :
 Calls Tryz.prog 20 #[.agg #[.slice A n cp, .slice B m cq, .int .i64 (lp : Int)]] w (fun e w' => e = .returned (.bool true) ∧ Below w.heap.size w w') := by
 subst h1
 subst h2
 exact valid_yes d hd A B cp cq m w hm hg
theorem below_drB {w w' : World} {o : Obj} (h : Below (w.drew.alloc o).heap.size (w.drew.alloc o) w') : Below w.heap.size w w' := by
 have b : Below w.heap.size w (w.drew.alloc o) := (Below.refl w.heap.size w).drew.alloc (Nat.le_refl _) o
 exact b.trans (h.mono b.size)
set_option maxRecDepth 100000 in
set_option maxHeartbeats 4000000 in
theorem keeps_valid (d : Pl.Dg) (hd : Pl.Valid d) (A B C : Option Addr) (cp cq m nc cc : Nat) (ms : List Mv) (w : World) (hm : m = 4 * d.n) (hg : DgAt w A B d) (hc : MvsA w C nc ms) (hcc : nc ≤ cc) (hcm : cc ≤ maxLen) (hgv : GV w) :
 Calls Tryz.prog 7 #[.agg #[.slice A d.n cp, .slice B m cq, .int .i64 d.lp], .slice C nc cc] w fun e w' => e = .returned (.bool true) ∧ Below w.heap.size w w' := by
 have HM := hide hm
 have HG := hide hg
 have HCS := hide hc
 have HGV := hide hgv
 have HD := hide hd
 have HLEN := hide hc.1
 have hn := hd.wf.few
 have hlp := hd.wf.lp
 unfold maxLen at hcm
 clear hm hg hc hgv
 have X0 := hide (row_at (W := w) (g := w.heap.size) (t := 24) (vs := [.slice A d.n cp, .slice B m cq, .int .i64 (d.lp : Int)]) rfl)
 have B0 := hide (show Below w.heap.size w (w.alloc (.cells #[.slice A d.n cp, .slice B m cq, .int .i64 (d.lp : Int)] 24)) from (Below.refl _ _).alloc (Nat.le_refl _) _)
 go_enter Tryz.func7, Tryz.ntmps7
 go_wp2_with fail
 refine (awake09 _ (HGV.out.below B0.out)).mono ?_
 rintro e w1 ⟨rfl, hb1⟩
 have X1 := hide (X0.out.below hb1)
 have B1 := hide (B0.out.trans (hb1.mono B0.out.size))
 clear X0 B0 hb1 HGV
 obtain ⟨d0, d1, d2, d3⟩ := box3 X1.out
 go_wp2_with fail
 refine (great09_any A B C d.n m cp cq nc cc d.lp w1).mono ?_
 rintro e w2 ⟨rfl, hb2⟩
 have X2 := hide (X1.out.below hb2)
 have B2 := hide (B1.out.trans (hb2.mono B1.out.size))
 clear X1 B1 hb2 d0 d1 d2 d3
 obtain ⟨gb, hgb⟩ : ∃ b, b = decide (16 < d.n ∨ 64 < m ∨ 30 < nc) := ⟨_, rfl⟩
 rw [← hgb]
 obtain ⟨d0, d1, d2, d3⟩ := box3 X2.out
 cases gb with
 | true =>
   clear hgb
   go_wp2
   go_ret
   exact ⟨rfl, B2.out⟩
 | false =>
   have hnc : nc ≤ 30 := by have := of_decide_eq_false hgb.symm; omega
   clear hgb
   obtain ⟨T, hT⟩ : ∃ T, strN d + d.lp = T := ⟨_, rfl⟩
   have HT := hide hT
   clear hT
   have hsz2 : w.heap.size ≤ w2.heap.size := B2.out.size
   go_wp2_with fail
   go_loopg [5, 6, 7, 8, 9, 18] (nc + 1) (fun g s5 s6 s7 s8 s9 i wx => ∃ k : Nat, k + g = nc + 1 ∧ i = .int .i64 (k : Int) ∧ Below w2.heap.size w2 wx)
   case atStart => exact ⟨0, by omega, rfl, Below.refl _ _⟩
   case round =>
    obtain ⟨k, hkg, rfl, hb⟩ := hrel
    have HKG := hide hkg
    have X3 := hide (X2.out.below hb)
    have B3 := hide (B2.out.trans (hb.mono B2.out.size))
    have B23 := hide hb
    clear hb
    have hsz3 : w2.heap.size ≤ wr.heap.size := B23.out.size
    obtain ⟨d0, d1, d2, d3⟩ := box3 X3.out
    by_cases hk : k < nc + 1
    ·have hki : (k : Int) < (nc : Int) + 1 := by omega
     have k0 : (0 : Int) ≤ (k : Int) := by omega
     have hkn : k ≤ nc := by omega
     obtain ⟨C1, hc1, hr1⟩ := cutM_lo (HCS.out.keep B3.out) hkn hcc
     have C13 := hide hc1
     have D3 := hide (HG.out.keep B3.out)
     clear hc1 hkg
     have hkm : k ≤ ms.length := by rw [← HLEN.out]; exact hkn
     have hlt : w.heap.size < wr.heap.size := X3.out.lt
     have DD := hide (show DgAt wr.drew A B d from ⟨D3.out.s, D3.out.m⟩)
     have CD := hide (show MvsA wr.drew C1 k (ms.take k) from C13.out)
     rcases lgl_or d (ms.take k) with hl | ⟨j, z, hf⟩
     ·have HL := hide (show ∀ j y, j < k → ms[j]? = some y → apC (apN d ms j) y = 0 from fun j y hj hy => by
       have h := hl j y (by rw [List.getElem?_take, if_pos hj]; exact hy)
       rw [apN_takeL ms d (Nat.le_of_lt hj) hkm] at h
       exact h)
      obtain ⟨r, hr⟩ : ∃ r, r = apN d ms k := ⟨_, rfl⟩
      have HRV := hide (show Pl.Valid r ∧ strN r + r.lp = T by
       have h := apN_comps (ms.take k) d HD.out hl HT.out k (by simp; omega)
       rw [apN_take ms d k hkm] at h
       rw [hr]
       exact h)
      have HPL := hide (fun (W : World) (hg : DgAt W A B d) (hc : MvsA W C1 k (ms.take k)) => play_leads d HD.out A B C1 cp cq m k cc (ms.take k) W HM.out hg hc (by omega) hl)
      rw [show (ms.take k).length = k by simp; omega, apN_take ms d k hkm, ← hr] at HPL
      have hrn := HRV.out.1.wf.few
      have hrl := HRV.out.1.wf.lp
      clear hr hl
      go_upto_region 8 with fail
      go_cut [6, 7, 8, 9] (fun s6 s7 s8 s9 wx => ∃ (g7 : Nat) (A7 B7 : Option Addr) (c7 c7' : Nat), s6 = .pointer (some ⟨g7, 0, none⟩) ∧ s9 = .int .i64 0 ∧ wr.heap.size ≤ g7 ∧ Row wx g7 24 [.slice A7 r.n c7, .slice B7 (4 * r.n) c7', .int .i64 (r.lp : Int)] ∧ DgT wx A7 B7 r ∧ Below wr.heap.size wr wx)
      case first =>
       go_region_with (first
        | (go_at_call 13
           refine (HPL.out _ (DD.out.keep ((Below.refl _ _).alloc (Nat.le_refl _) _)) (CD.out.keep ((Below.refl _ _).alloc (Nat.le_refl _) _))).mono ?_
           rintro e w7 ⟨A7, B7, M7, c7, c7', c7'', n7, m7, l7, bs7, rfl, rfl, rfl, _, rfl, hT7, _, hb7⟩
           have r9 := (row_at (W := wr.drew) (g := wr.heap.size) (t := 24) (vs := [.slice none 0 0, .slice none 0 0, .int .i64 0]) rfl).below hb7
           obtain ⟨e0, e1, e2, e3⟩ := box3 r9)
        | (go_at_call 13
           refine (HPL.out _ DD.out CD.out).mono ?_
           rintro e w7 ⟨A7, B7, M7, c7, c7', c7'', n7, m7, l7, bs7, rfl, rfl, rfl, _, rfl, hT7, _, hb7⟩))
       all_goals (go_wp2_with fail; go_meet)
       ·exact ⟨w7.heap.size, A7, B7, c7, c7', rfl, rfl, hb7.size, row_at (vs := [.slice A7 _ c7, .slice B7 _ c7', .int .i64 _]) rfl, hT7.keep ((Below.refl _ _).alloc (Nat.le_refl _) _), (below_dr hb7).alloc hb7.size _⟩
       ·exact ⟨wr.heap.size, A7, B7, c7, c7', rfl, rfl, Nat.le_refl _, row3 r9 rfl _ _ _, hT7.set3 r9 _ _ _, below3 (below_drB hb7) (Nat.le_refl _) _ _ _⟩
       ·exact ⟨wr.heap.size, A7, B7, c7, c7', rfl, rfl, Nat.le_refl _, row3 r9 rfl _ _ _, hT7.set3 r9 _ _ _, below3 (below_drB hb7) (Nat.le_refl _) _ _ _⟩
      case rest =>
       obtain ⟨g7, A7, B7, c7, c7', rfl, rfl, hg7, hr7, hT7, hb7⟩ := hcut
       clear HPL DD CD d0 d1 d2 d3 C13 hr1
       obtain ⟨n7, hn7⟩ : ∃ n, n = r.n := ⟨_, rfl⟩
       obtain ⟨m7, hm7⟩ : ∃ n, n = 4 * r.n := ⟨_, rfl⟩
       obtain ⟨l7, hl7⟩ : ∃ n, n = r.lp := ⟨_, rfl⟩
       rw [← hm7, ← hn7, ← hl7] at hr7
       rw [← hn7] at hrn
       rw [← hl7] at hrl
       have HN7 := hide hn7
       have HM7 := hide hm7
       have HL7 := hide hl7
       clear hn7 hm7 hl7
       have R7 := hide hr7
       have T7 := hide hT7
       have X7 := hide (X3.out.below hb7)
       have B7' := hide (B3.out.trans (hb7.mono B3.out.size))
       have B27 := hide (B23.out.trans (hb7.mono B23.out.size))
       have D7 := hide (D3.out.keep hb7)
       clear hr7 hT7 hb7 X3 B3 B23 D3
       go_upto_region 11 with fail
       have HC1 := hide (fun (p : Cls (fun W => Below wc.heap.size wc W)) => calls_cls (C := (fun W => Below wc.heap.size wc W)) (comps_T r HRV.out.1 A7 B7 n7 c7 c7' m7 l7 T p.w HM7.out (T7.out.at.keep p.ok) HN7.out HL7.out HRV.out.2) (fun e w' h => ⟨h.1, p.ok.trans (h.2.mono p.ok.size)⟩))
       have HC2 := hide (fun (p : Cls (fun W => Below wc.heap.size wc W)) => calls_cls (C := (fun W => Below wc.heap.size wc W)) (comps_T d HD.out A B d.n cp cq m d.lp T p.w HM.out (D7.out.keep p.ok) rfl rfl HT.out) (fun e w' h => ⟨h.1, p.ok.trans (h.2.mono p.ok.size)⟩))
       have HC0 := hide (fun (p : Cls (fun W => Below wc.heap.size wc W)) => calls_cls (C := (fun W => Below wc.heap.size wc W)) (valid_T r HRV.out.1 A7 B7 n7 c7 c7' m7 l7 p.w HM7.out (T7.out.at.keep p.ok) HN7.out HL7.out) (fun e w' h => ⟨h.1, p.ok.trans (h.2.mono p.ok.size)⟩))
       have c30 : ∀ p : Cls (fun W => Below wc.heap.size wc W), p.w.cell? ⟨w.heap.size, 0, none⟩ = some (.slice A d.n cp) := fun p => (X7.out.below p.ok).cell (i := 0) (by show 0 < 3; omega)
       have c31 : ∀ p : Cls (fun W => Below wc.heap.size wc W), p.w.cell? ⟨w.heap.size, 1, none⟩ = some (.slice B m cq) := fun p => (X7.out.below p.ok).cell (i := 1) (by show 1 < 3; omega)
       have c32 : ∀ p : Cls (fun W => Below wc.heap.size wc W), p.w.cell? ⟨w.heap.size, 2, none⟩ = some (.int .i64 (d.lp : Int)) := fun p => (X7.out.below p.ok).cell (i := 2) (by show 2 < 3; omega)
       have c40 : ∀ p : Cls (fun W => Below wc.heap.size wc W), p.w.cell? ⟨g7, 0, none⟩ = some (.slice A7 n7 c7) := fun p => (R7.out.below p.ok).cell (i := 0) (by show 0 < 3; omega)
       have c41 : ∀ p : Cls (fun W => Below wc.heap.size wc W), p.w.cell? ⟨g7, 1, none⟩ = some (.slice B7 m7 c7') := fun p => (R7.out.below p.ok).cell (i := 1) (by show 1 < 3; omega)
       have c42 : ∀ p : Cls (fun W => Below wc.heap.size wc W), p.w.cell? ⟨g7, 2, none⟩ = some (.int .i64 (l7 : Int)) := fun p => (R7.out.below p.ok).cell (i := 2) (by show 2 < 3; omega)
       refine wp_region_cls (fun W => Below wc.heap.size wc W) (by kernel_rfl) (by kernel_rfl) (Below.refl wc.heap.size wc).drew (fun hne => ?_)
       repeat (go_big_quiet_step (((go_at_call 20; exact HC0.out _))))
       clear HC0
       go_big_quiet_step (((go_at_call 25; exact HC1.out _)))
       clear HC1
       repeat (go_big_quiet_step (((go_at_call 25; exact HC2.out _))))
       refine wpQuiet_nil ?_
       rintro _ ⟨p, rfl⟩
       have hb9 := p.ok
       have B9 := hide (B7'.out.trans (hb9.mono B7'.out.size))
       have B29 := hide (B27.out.trans (hb9.mono B27.out.size))
       clear HC2 c30 c31 c32 c40 c41 c42 hb9
       go_wp2
       go_roundg (gk - 1)
       case measure => have := HKG.out; omega
       case rel => exact ⟨k + 1, by have := HKG.out; omega, by go_num, B29.out⟩
     ·have HPL := hide (fun (W : World) (hg : DgAt W A B d) (hc : MvsA W C1 k (ms.take k)) => play_fault d HD.out A B C1 cp cq m k cc (ms.take k) W HM.out hg hc (by omega) hf)
      obtain ⟨ce, hce⟩ : ∃ c, c = apC (apN d (ms.take k) j) z := ⟨_, rfl⟩
      have hce0 : ce ≠ 0 := by rw [hce]; exact hf.2.2
      rw [← hce] at HPL
      have hcen : (ce != 0) = true := by rw [bne_iff_ne]; exact hce0
      have hceb : (ce == 0) = false := by rw [beq_eq_false_iff_ne]; exact hce0
      clear hce hf
      go_upto_region 8 with fail
      go_cut [6, 7, 8, 9] (fun s6 s7 s8 s9 wx => s9 = .int .i64 ce ∧ Below wr.heap.size wr wx)
      case first =>
       go_region_with (first
        | (go_at_call 13
           refine (HPL.out _ (DD.out.keep ((Below.refl _ _).alloc (Nat.le_refl _) _)) (CD.out.keep ((Below.refl _ _).alloc (Nat.le_refl _) _))).mono ?_
           rintro e w7 ⟨rfl, hb7⟩
           have r9 := (row_at (W := wr.drew) (g := wr.heap.size) (t := 24) (vs := [.slice none 0 0, .slice none 0 0, .int .i64 0]) rfl).below hb7
           obtain ⟨e0, e1, e2, e3⟩ := box3 r9)
        | (go_at_call 13
           refine (HPL.out _ DD.out CD.out).mono ?_
           rintro e w7 ⟨rfl, hb7⟩))
       all_goals (go_wp2_with fail; go_meet)
       ·exact ⟨rfl, (below_dr hb7).alloc hb7.size _⟩
       ·exact ⟨rfl, below3 (below_drB hb7) (Nat.le_refl _) _ _ _⟩
       ·exact ⟨rfl, below3 (below_drB hb7) (Nat.le_refl _) _ _ _⟩
      case rest =>
       obtain ⟨rfl, hb7⟩ := hcut
       have B7 := hide (B3.out.trans (hb7.mono B3.out.size))
       clear HPL DD CD d0 d1 d2 d3 C13 hr1 hb7
       go_wp2
       go_ret
       exact ⟨rfl, B7.out⟩
    ·have hki : ¬ ((k : Int) < (nc : Int) + 1) := by omega
     clear hkg
     go_wp2
     go_ret
     exact ⟨rfl, B3.out⟩
set_option maxRecDepth 100000 in
set_option maxHeartbeats 4000000 in
theorem keeps_bad (sg mt : List Int) (lp : Int) (A B C : Option Addr) (n q cp cq nc cc : Nat) (ms : List Mv) (w : World) (hs : IntsAt w A n sg) (hm : IntsAt w B q mt) (hc : MvsA w C nc ms) (hcc : nc ≤ cc) (hcm : cc ≤ maxLen) (hn : n ≤ maxLen) (hq : q ≤ maxLen) (hlp : -9223372036854775808 ≤ lp ∧ lp ≤ 9223372036854775807) (hv : ¬ Pl.VL sg mt lp) (hgv : GV w) :
 Calls Tryz.prog 7 #[.agg #[.slice A n cp, .slice B q cq, .int .i64 lp], .slice C nc cc] w fun e w' => e = .returned (.bool true) ∧ Below w.heap.size w w' := by
 have HS := hide hs
 have HM := hide hm
 have HCS := hide hc
 have HGV := hide hgv
 have HLEN := hide hc.1
 have HN := hide hn
 have HQ := hide hq
 have HV := hide hv
 have HLP := hide hlp
 unfold maxLen at hcm
 clear hm hs hc hgv hn hq hv hlp
 have X0 := hide (row_at (W := w) (g := w.heap.size) (t := 24) (vs := [.slice A n cp, .slice B q cq, .int .i64 lp]) rfl)
 have B0 := hide (show Below w.heap.size w (w.alloc (.cells #[.slice A n cp, .slice B q cq, .int .i64 lp] 24)) from (Below.refl _ _).alloc (Nat.le_refl _) _)
 go_enter Tryz.func7, Tryz.ntmps7
 go_wp2_with fail
 refine (awake09 _ (HGV.out.below B0.out)).mono ?_
 rintro e w1 ⟨rfl, hb1⟩
 have X1 := hide (X0.out.below hb1)
 have B1 := hide (B0.out.trans (hb1.mono B0.out.size))
 clear X0 B0 hb1 HGV
 obtain ⟨d0, d1, d2, d3⟩ := box3 X1.out
 go_wp2_with fail
 refine (great09_any A B C n q cp cq nc cc lp w1).mono ?_
 rintro e w2 ⟨rfl, hb2⟩
 have X2 := hide (X1.out.below hb2)
 have B2 := hide (B1.out.trans (hb2.mono B1.out.size))
 clear X1 B1 hb2 d0 d1 d2 d3
 obtain ⟨gb, hgb⟩ : ∃ b, b = decide (16 < n ∨ 64 < q ∨ 30 < nc) := ⟨_, rfl⟩
 rw [← hgb]
 obtain ⟨d0, d1, d2, d3⟩ := box3 X2.out
 cases gb with
 | true =>
   clear hgb
   go_wp2
   go_ret
   exact ⟨rfl, B2.out⟩
 | false =>
   have hnc : nc ≤ 30 := by have := of_decide_eq_false hgb.symm; omega
   clear hgb
   have hsz2 : w.heap.size ≤ w2.heap.size := B2.out.size
   go_wp2_with fail
   go_loopg [5, 6, 7, 8, 9, 18] (nc + 1) (fun g s5 s6 s7 s8 s9 i wx => ∃ k : Nat, k + g = nc + 1 ∧ i = .int .i64 (k : Int) ∧ Below w2.heap.size w2 wx)
   case atStart => exact ⟨0, by omega, rfl, Below.refl _ _⟩
   case round =>
    obtain ⟨k, hkg, rfl, hb⟩ := hrel
    have HKG := hide hkg
    have X3 := hide (X2.out.below hb)
    have B3 := hide (B2.out.trans (hb.mono B2.out.size))
    have B23 := hide hb
    clear hb
    have hsz3 : w2.heap.size ≤ wr.heap.size := B23.out.size
    obtain ⟨d0, d1, d2, d3⟩ := box3 X3.out
    by_cases hk : k < nc + 1
    ·have hki : (k : Int) < (nc : Int) + 1 := by omega
     have k0 : (0 : Int) ≤ (k : Int) := by omega
     have hkn : k ≤ nc := by omega
     obtain ⟨C1, hc1, hr1⟩ := cutM_lo (HCS.out.keep B3.out) hkn hcc
     clear hc1 hkg
     have hlt : w.heap.size < wr.heap.size := X3.out.lt
     have DS := hide (show IntsAt wr.drew A n sg from HS.out.keep B3.out.drew)
     have DM := hide (show IntsAt wr.drew B q mt from HM.out.keep B3.out.drew)
     go_upto_region 8 with fail
     go_cut [6, 7, 8, 9] (fun s6 s7 s8 s9 wx => s9 = .int .i64 1 ∧ Below wr.heap.size wr wx)
     case first =>
      go_region_with (first
       | (go_at_call 13
          refine (play_bad sg mt lp A B C1 n q cp cq k cc _ (DS.out.keep ((Below.refl _ _).alloc (Nat.le_refl _) _)) (DM.out.keep ((Below.refl _ _).alloc (Nat.le_refl _) _)) HN.out HQ.out HLP.out HV.out).mono ?_
          rintro e w7 ⟨rfl, hb7⟩
          have r9 := (row_at (W := wr.drew) (g := wr.heap.size) (t := 24) (vs := [.slice none 0 0, .slice none 0 0, .int .i64 0]) rfl).below hb7
          obtain ⟨e0, e1, e2, e3⟩ := box3 r9
          unfold playErr)
       | (go_at_call 13
          refine (play_bad sg mt lp A B C1 n q cp cq k cc _ DS.out DM.out HN.out HQ.out HLP.out HV.out).mono ?_
          rintro e w7 ⟨rfl, hb7⟩
          unfold playErr))
      all_goals (go_wp2_with fail; go_meet)
      ·exact ⟨rfl, (below_dr hb7).alloc hb7.size _⟩
      ·exact ⟨rfl, below3 (below_drB hb7) (Nat.le_refl _) _ _ _⟩
      ·exact ⟨rfl, below3 (below_drB hb7) (Nat.le_refl _) _ _ _⟩
     case rest =>
      obtain ⟨rfl, hb7⟩ := hcut
      have B7 := hide (B3.out.trans (hb7.mono B3.out.size))
      clear DS DM d0 d1 d2 d3 hr1 hb7
      go_wp2
      go_ret
      exact ⟨rfl, B7.out⟩
    ·have hki : ¬ ((k : Int) < (nc : Int) + 1) := by omega
     clear hkg
     go_wp2
     go_ret
     exact ⟨rfl, B3.out⟩
theorem movieKeeps_walk (sg mt : List Int) (lp : Int) (A B : Option Addr) (n q cp cq : Nat) (C : Option Addr) (nc cc : Nat) (ms : List Mv) (w : World) (hs : IntsAt w A n sg) (hm : IntsAt w B q mt) (hn : n ≤ maxLen) (hq : q ≤ maxLen) (hlp : -9223372036854775808 ≤ lp ∧ lp ≤ 9223372036854775807) (hc : MvsA w C nc ms) (hcc : nc ≤ cc) (hcm : cc ≤ maxLen) (_hin : ∀ m, m ∈ ms → MvIn m) (hgv : GV w) :
 Calls Tryz.prog 7 #[.agg #[.slice A n cp, .slice B q cq, .int .i64 lp], .slice C nc cc] w fun e w' => e = .returned (.bool true) ∧ Below w.heap.size w w' := by
 by_cases hv : Pl.VL sg mt lp
 ·have hl := hs.len
  have hl2 := hm.len
  have hl3 := hv.len
  have en : (Pl.mk sg mt lp).n = n := hl
  have em : nats (Pl.mk sg mt lp).mt = mt := Pl.nats_mk hv.2.1
  have el : ((Pl.mk sg mt lp).lp : Int) = lp := by show ((lp.toNat : Nat) : Int) = lp; have := hv.2.2; omega
  have h := keeps_valid (Pl.mk sg mt lp) hv.1 A B C cp cq q nc cc ms w (by rw [en]; omega) ⟨by rw [en]; exact hs, by rw [en, em, show 4 * n = q by omega]; exact hm⟩ hc hcc hcm hgv
  rw [en, el] at h
  exact h
 ·exact keeps_bad sg mt lp A B C n q cp cq nc cc ms w hs hm hc hcc hcm hn hq hlp hv hgv
end Go.Proofs.YtlffopdoeobgaaaGreatDoor
end
