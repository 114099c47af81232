/-
 The texts Vq, Vr, Brd, Brc, Ba, Bb, Bc in one.
-/
import Derived.Test.YtcaoblilkgajoaaDoorG11
import Derived.Test.YtcaoblilkgajoaaDoorG07
import Derived.Test.YtcaoblilkgajoaaDoorG02
import Derived.RegionTactic
set_option linter.unusedVariables false
set_option linter.unusedSimpArgs false
section
namespace Go.Proofs.YtcaoblilkgajoaaDoor
open Go Go.RowKit
attribute [local go_sem ↓] Go.wp_at_zero Go.wp_at_succ
/-- The code after some pieces. -/
def pcJ (lp : Nat) (ps : List Pl.Pc) (j : Nat) : List Int := (lp : Int) :: (ps.length : Int) :: (ps.take j).flatMap (fun p => (p.order.length : Int) :: p.code)
theorem pcJ_zero (lp : Nat) (ps : List Pl.Pc) : pcJ lp ps 0 = [(lp : Int), (ps.length : Int)] := by unfold pcJ; simp
theorem pcJ_succ (lp : Nat) {ps : List Pl.Pc} {j : Nat} {p : Pl.Pc} (h : ps[j]? = some p) : pcJ lp ps (j + 1) = (pcJ lp ps j ++ [(p.order.length : Int)]) ++ p.code := by
 unfold pcJ
 rw [Pl.take_one h, List.flatMap_append]
 simp
theorem pcJ_all (lp : Nat) {ps : List Pl.Pc} {j : Nat} (h : ps.length ≤ j) : pcJ lp ps j = Pl.pcode lp ps := by
 unfold pcJ Pl.pcode
 rw [List.take_of_length_le h]
theorem pcJ_len (lp : Nat) {ps : List Pl.Pc} (hs : ∀ p, p ∈ ps → PcSz p) : ∀ j, (pcJ lp ps j).length ≤ 2 + 400 * j
 | 0 => by rw [pcJ_zero]; simp
 | j + 1 => by
   by_cases h : j < ps.length
   ·have e : ps[j]? = some ps[j] := List.getElem?_eq_getElem h
    have h1 := hs _ (List.getElem_mem h)
    have h2 := h1.1
    have h3 := h1.2
    have ih := pcJ_len lp hs j
    rw [pcJ_succ lp e]
    simp only [List.length_append, List.length_cons, List.length_nil]
    omega
   ·have ih := pcJ_len lp hs j
    rw [pcJ_all lp (by omega)] at ih
    rw [pcJ_all lp (by omega)]
    omega
/-- While the code is written. -/
structure CL (w1 : World) (xs : List Int) (m : Nat) (vL : Value) (W : World) : Prop where
 own : W.ownsRow w1.heap.size 3 1 vL m (xs.map (.int .i64))
 len : xs.length = m
 bel : Below w1.heap.size w1 W
theorem CL.alloc {w1 W : World} {xs : List Int} {m : Nat} {vL : Value} (h : CL w1 xs m vL W) (o : Obj) : CL w1 xs m vL (W.alloc o) :=
 ⟨own_below h.own ((Below.refl _ _).alloc (Nat.le_refl _) o), h.len, h.bel.trans (((Below.refl _ _).alloc (Nat.le_refl _) o).mono h.bel.size)⟩
theorem CL.app {w1 W W' : World} {xs ys : List Int} {m n : Nat} {vL vL' : Value} (h : CL w1 xs m vL W) (own : W'.ownsRow w1.heap.size 3 1 vL' n (xs.map (.int .i64) ++ ys.map (.int .i64))) (gr : W.grownBy W' vL.ownBlock) (hn : n = m + ys.length) : CL w1 (xs ++ ys) n vL' W' :=
 ⟨by rw [List.map_append]; exact own, by rw [List.length_append, h.len, hn], h.bel.grown gr h.bel.size (fun k hk => (h.own.lt k hk).1)⟩
theorem own_two (w : World) (x y : Int) : (w.alloc (.cells #[.int .i64 x, .int .i64 y] 3)).ownsRow w.heap.size 3 1 (.slice (some ⟨w.heap.size, 0, none⟩) 2 2) 2 ([x, y].map (.int .i64)) :=
 ⟨rfl, .inr ⟨w.heap.size, 2, #[.int .i64 x, .int .i64 y], rfl, Nat.le_refl _, heap_alloc_new w _, Nat.le_refl _, by unfold maxLen; omega, rfl, rfl⟩⟩
def CodePost (d : Pl.Dg) (w : World) (e : Ending) (w' : World) : Prop :=
 ∃ (A' : Option Addr) (n c : Nat) (ps : List Pl.Pc), e = .returned (.slice A' n c) ∧ Pl.Pcs d ps ∧ Pl.Srt ps ∧ n ≤ 8100 ∧ IntsAt w' A' n (Pl.pcode d.lp ps) ∧ Below w.heap.size w w'
set_option maxRecDepth 100000 in
set_option maxHeartbeats 8100000 in
theorem code_yes (d : Pl.Dg) (hd : Pl.Valid d) (h20 : d.n ≤ 20) (A B : Option Addr) (cp cq m : Nat) (w : World) (hm : m = 4 * d.n) (hg : DgAt w A B d) :
 Calls Tryd.prog 43 #[.agg #[.slice A d.n cp, .slice B m cq, .int .i64 d.lp]] w (CodePost d w) := by
 have hlp := hd.wf.lp
 have HM := hide hm
 have HG := hide hg
 have HD := hide hd
 clear hm hg
 have X0 := hide (row_at (W := w) (g := w.heap.size) (t := 28) (vs := [.slice A d.n cp, .slice B m cq, .int .i64 d.lp]) rfl)
 have B0 := hide (show Below w.heap.size w (w.alloc (.cells #[.slice A d.n cp, .slice B m cq, .int .i64 d.lp] 28)) from (Below.refl _ _).alloc (Nat.le_refl _) _)
 go_enter Tryd.func43, Tryd.ntmps43
 obtain ⟨d0, d1, d2, d3⟩ := box3 X0.out
 go_wp2_with fail
 refine (valid_yes d HD.out A B cp cq m _ HM.out (HG.out.keep B0.out)).mono ?_
 rintro e w1 ⟨rfl, hb1⟩
 have Y0 := hide (X0.out.below hb1)
 have B1 := hide (B0.out.trans (hb1.mono B0.out.size))
 clear X0 B0 hb1 d0 d1 d2 d3
 obtain ⟨d0, d1, d2, d3⟩ := box3 Y0.out
 go_wp2_with fail
 refine (pieces_any d HD.out A B cp cq m _ HM.out (HG.out.keep B1.out) h20).mono ?_
 rintro e w2 ⟨aLst, n, cL, cs, ps, rfl, hown, hpv, hlen, hnd, hpcs, hsrt, hb2⟩
 have Z0 := hide (Y0.out.below hb2)
 have B2 := hide (B1.out.trans (hb2.mono B1.out.size))
 have OW := hide hown
 have HPV := hide hpv
 have HLEN := hide hlen
 have HPS := hide (show Pl.Pcs d ps ∧ Pl.Srt ps from ⟨hpcs, hsrt⟩)
 have HSZ := hide (pcs_sz HD.out.wf hpcs)
 have hn20 : n ≤ 20 := by omega
 clear hown hpv hlen hpcs hsrt hb2 d0 d1 d2 d3 Y0 B1 hnd
 obtain ⟨d0, d1, d2, d3⟩ := box3 Z0.out
 go_upto_region 5 with fail
 have L0 := hide (show CL w2 (pcJ d.lp ps 0) 2 (.slice (some ⟨w2.heap.size, 0, none⟩) 2 2) (w2.alloc (.cells #[.int .i64 d.lp, .int .i64 n] 3)) from by
  rw [pcJ_zero, HLEN.out]
  exact ⟨own_two _ _ _, rfl, (Below.refl _ _).alloc (Nat.le_refl _) _⟩)
 clear d0 d1 d2 d3
 go_wp2_with fail
 go_loopg [4, 6, 19] n (fun g s4 s6 s19 wx => ∃ (j m : Nat) (xs : List Int), j + g = n ∧ s19 = .int .i64 (j : Int) ∧ xs = pcJ d.lp ps j ∧ CL w2 xs m s4 wx)
 case atStart => exact ⟨0, _, _, by omega, rfl, rfl, L0.out⟩
 case round =>
  clear L0
  obtain ⟨j, k, xs, hjg, rfl, hxs, hk⟩ := hrel
  have HJG := hide hjg
  have K0 := hide hk
  have HXS := hide hxs
  have hjn : j ≤ n := by omega
  have hkl : k ≤ 2 + 400 * j := by
   rw [← hk.len, hxs]
   exact pcJ_len d.lp HSZ.out j
  clear hk hxs
  obtain ⟨A4, c4, rfl⟩ := owns_slice K0.out.own
  by_cases hj : j < n
  ·have hji : (j : Int) < (n : Int) := by omega
   have j0 : (0 : Int) ≤ (j : Int) := by omega
   have hnA : 0 < n := by omega
   obtain ⟨g, cap, hA, hcap, hgl⟩ := World.ownsRow.form OW.out hnA
   injection hA with hA _ hcc
   subst hA
   subst hcc
   obtain ⟨p, hp⟩ : ∃ p, ps[j]? = some p := ⟨_, List.getElem?_eq_getElem (by rw [HLEN.out]; exact hj)⟩
   have HXN := hide (pcJ_succ d.lp hp)
   have hpsz := HSZ.out p (List.mem_of_getElem? hp)
   obtain ⟨a0, a1, a2, hpx, ca0, ca1, ca2⟩ := HPV.out.at_ hp
   have CA := fun (t : Nat) (u : Value) (ht : j * 3 + t < n * 3) (e : cs[j * 3 + t]? = some u) => (show wr.cell? ⟨g, j * 3 + t, none⟩ = some u by exact cell_below (by rw [World.ownsRow.cellAt OW.out _ ht]; exact e) K0.out.bel)
   have x0 := CA 0 a0 (by omega) ca0
   have x1 := CA 1 a1 (by omega) ca1
   have x2 := CA 2 _ (by omega) ca2
   rw [Nat.add_zero] at x0
   clear CA ca0 ca1 ca2 hp hjg
   obtain ⟨A1, e1, h1, h1b⟩ := hpx.c
   obtain ⟨A2, e2, h2, h2b⟩ := hpx.o
   have HC1 := hide (show IntsAt w2 A1 p.code.length p.code from h1b.2.row)
   subst h1
   subst h2
   clear h1b h2b hpx
   rw [nats_len] at x1
   obtain ⟨L1, hL1⟩ : ∃ n, n = p.code.length := ⟨_, rfl⟩
   obtain ⟨L2, hL2⟩ : ∃ n, n = p.order.length := ⟨_, rfl⟩
   rw [← hL1] at x0 HC1
   rw [← hL2] at x1
   have HL2 := hide hL2
   have HL1 := hide hL1
   have hL2b : L2 ≤ 64 := by rw [hL2]; exact hpsz.1
   have hL1b : L1 ≤ 320 := by rw [hL1, hpsz.2]; have := hpsz.1; omega
   clear hpsz hL1 hL2
   have KA := hide (K0.out.alloc (.cells #[.slice A1 L1 e1, .slice A2 L2 e2, .int .i64 a2] 90))
   have XB := hide (row_at (W := wr) (g := wr.heap.size) (t := 90) (vs := [.slice A1 L1 e1, .slice A2 L2 e2, .int .i64 a2]) rfl)
   obtain ⟨f0, f1, f2, f3⟩ := box3 XB.out
   go_upto_region 8 with fail
   obtain ⟨V, hV⟩ : ∃ V, V = wr.alloc (.cells #[.slice A1 L1 e1, .slice A2 L2 e2, .int .i64 a2] 90) := ⟨_, rfl⟩
   obtain ⟨gb, hgb⟩ : ∃ g, g = wr.heap.size := ⟨_, rfl⟩
   have hgV : w2.heap.size ≤ gb := by rw [hgb]; exact K0.out.bel.size
   rw [← hV] at KA XB f0 f1 f2 f3 ⊢
   rw [← hgb] at XB f0 f1 f2 f3 ⊢
   have HUB := hide (show ∀ b, (Value.slice A4 k c4).ownBlock = some b → b < gb from fun b h => by rw [hgb]; exact (K0.out.own.lt b h).2)
   clear hV hgb x0 x1 x2 K0
   have KB := hide (KA.out.alloc (.cells #[.int .i64 L2] 3))
   have hVs := KA.out.bel.size
   obtain ⟨i0, hi0, hz0, hz1, hz2⟩ := info_parts intInfo
   go_upto_region 9 with (at_builtin; refine wpList_append_lies _ (by rfl) _ _ 22 (by rfl) w2.heap.size 3 i0 (.int .i64 0) 1 8 Tryd.underlying22 hi0 hz0 hz1 hz2 rfl (by omega) _ k _ (by rfl) KB.out.own ⟨V.heap.size, 0, none⟩ 1 1 [.int .i64 L2] (by rfl) (by rfl) (one_newsG _ _ rfl) (by simp [Value.oneCell']) (by omega) (by unfold maxLen; omega) (by omega) (by have := KB.out.bel.size; omega) (V.heap.size + 1) (by simp) ?_; intro g3 c3 w3 own3 grow3 at3 lt3; have OWN3 := hide own3; have GR3 := hide grow3; clear own3 grow3 at3)
   have K3 := hide (KB.out.app (ys := [(L2 : Int)]) OWN3.out GR3.out rfl)
   have X3 := hide ((XB.out.below ((Below.refl V.heap.size V).alloc (Nat.le_refl _) (.cells #[.int .i64 L2] 3))).grown GR3.out (fun e => by have := HUB.out _ e.symm; omega))
   clear f0 f1 f2 f3 KA KB XB OWN3 GR3 lt3
   obtain ⟨f0, f1, f2, f3⟩ := box3 X3.out
   go_wp2_with (at_builtin; refine wpList_append_int _ (by rfl) _ _ 22 (by rfl) w2.heap.size 3 i0 (.int .i64 0) 8 Tryd.underlying22 hi0 hz0 hz1 hz2 rfl _ (k + 1) _ (by rfl) K3.out.own A1 L1 e1 p.code (by rfl) (HC1.out.keep K3.out.bel) (by unfold maxLen; omega) (by omega) K3.out.bel.size ?_; intro v4 w4 own4 gr4; have OWN4 := hide own4; have GR4 := hide gr4; clear own4 gr4)
   go_roundg (gk - 1)
   case measure => have := HJG.out; omega
   case rel => exact ⟨j + 1, _, _, by have := HJG.out; omega, by go_num, rfl, by
    rw [HXN.out, ← HXS.out, ← HL2.out]
    exact K3.out.app OWN4.out GR4.out (by rw [HL1.out])⟩
  ·have hji : ¬ ((j : Int) < (n : Int)) := by omega
   have HIA := hide (show IntsAt wr A4 k (Pl.pcode d.lp ps) by
    rw [← pcJ_all d.lp (j := j) (by rw [HLEN.out]; omega), ← HXS.out]
    exact (own_rowT K0.out.own).row)
   have HBE := hide (B2.out.trans (K0.out.bel.mono B2.out.size))
   go_wp2
   go_ret
   exact ⟨A4, k, c4, ps, rfl, HPS.out.1, HPS.out.2, by omega, HIA.out, HBE.out⟩
end Go.Proofs.YtcaoblilkgajoaaDoor
end
section
namespace Go.Proofs.YtcaoblilkgajoaaDoor
open Go Go.RowKit
attribute [local go_sem ↓] Go.wp_at_zero Go.wp_at_succ
theorem eq_ints (A B : Option Addr) (n m c e : Nat) (xs ys : List Int) (w : World) (ha : IntsAt w A n xs) (hb : IntsAt w B m ys) (hn0 : 0 < n) (hm0 : 0 < m) (hn : n ≤ 100000) (hm : m ≤ 100000) :
 Calls Tryd.prog 42 #[.slice A n c, .slice B m e] w fun r w' => r = .returned (.bool (Pl.vb (xs = ys))) ∧ Below w.heap.size w w' := by
 have hl := ha.len
 have hl2 := hb.len
 obtain ⟨b, o, rfl, _⟩ := ha.at_ (k := 0) hn0
 obtain ⟨b2, o2, rfl, _⟩ := hb.at_ (k := 0) hm0
 refine (Tryd.slices_Equal_int b o n c b2 o2 m e xs ys w (by omega) (by omega) (by omega) (by omega) (fun j hj => ?_) (fun j hj => ?_)).mono ?_
 ·obtain ⟨b', o', e1, hc⟩ := ha.at_ (k := j) (by omega)
  injection e1 with e1
  injection e1 with e1 e2
  subst e1
  subst e2
  exact hc
 ·obtain ⟨b', o', e1, hc⟩ := hb.at_ (k := j) (by omega)
  injection e1 with e1
  injection e1 with e1 e2
  subst e1
  subst e2
  exact hc
 ·rintro r w' ⟨rfl, q, rfl⟩
  refine ⟨ret_bool ?_, below_drewN (Below.refl _ _) q⟩
  rw [List.take_of_length_le (by omega), List.take_of_length_le (by omega), Bool.eq_iff_iff, Pl.vb_iff]
  simp
theorem same_vb {a b : Pl.Dg} (ha : Pl.Wf a) (hb : Pl.Wf b) {ps qs : List Pl.Pc} (hp : Pl.Pcs a ps) (hq : Pl.Pcs b qs) (sp : Pl.Srt ps) (sq : Pl.Srt qs) : Pl.vb (Pl.pcode a.lp ps = Pl.pcode b.lp qs) = Pl.vb (∃ σ, Pl.Iso a b σ) := by
 rw [Bool.eq_iff_iff, Pl.vb_iff, Pl.vb_iff]
 exact ⟨fun h => Pl.iso_of_code ha hb hp hq h, fun ⟨σ, I⟩ => I.pcode ha hb hp hq sp sq⟩
theorem pcode_pos {w : World} {A : Option Addr} {n lp : Nat} {ps : List Pl.Pc} (h : IntsAt w A n (Pl.pcode lp ps)) : 0 < n := by
 have := h.len
 unfold Pl.pcode at this
 simp only [List.length_cons] at this
 omega
set_option maxRecDepth 100000 in
set_option maxHeartbeats 8000000 in
theorem same_yes20 (a b : Pl.Dg) (ha : Pl.Valid a) (hb : Pl.Valid b) (ha20 : a.n ≤ 20) (hb20 : b.n ≤ 20) (A B C D : Option Addr) (cp cq m cp' cq' m' : Nat) (w : World) (hm : m = 4 * a.n) (hg : DgAt w A B a) (hm' : m' = 4 * b.n) (hg' : DgAt w C D b) :
 Calls Tryd.prog 17 #[.agg #[.slice A a.n cp, .slice B m cq, .int .i64 a.lp], .agg #[.slice C b.n cp', .slice D m' cq', .int .i64 b.lp]] w fun e w' => e = .returned (.bool (Pl.vb (∃ σ, Pl.Iso a b σ))) ∧ Below w.heap.size w w' := by
 have hlp := ha.wf.lp
 have hlp' := hb.wf.lp
 have HM := hide hm
 have HG := hide hg
 have HA := hide ha
 have HM' := hide hm'
 have HG' := hide hg'
 have HB := hide hb
 clear hm hg hm' hg'
 have X0 := hide (row_at (W := w) (g := w.heap.size) (t := 28) (vs := [.slice A a.n cp, .slice B m cq, .int .i64 a.lp]) rfl)
 have X1 := hide (X0.out.below ((Below.refl _ _).alloc (Nat.le_refl _) (.cells #[.slice C b.n cp', .slice D m' cq', .int .i64 b.lp] 28)))
 have Y1 := hide (row_at (W := w.alloc (.cells #[.slice A a.n cp, .slice B m cq, .int .i64 a.lp] 28)) (g := w.heap.size + 1) (t := 28) (vs := [.slice C b.n cp', .slice D m' cq', .int .i64 b.lp]) (by simp))
 have B0 := hide (show Below w.heap.size w ((w.alloc (.cells #[.slice A a.n cp, .slice B m cq, .int .i64 a.lp] 28)).alloc (.cells #[.slice C b.n cp', .slice D m' cq', .int .i64 b.lp] 28)) from ((Below.refl _ _).alloc (Nat.le_refl _) _).alloc (by simp) _)
 clear X0
 go_enter Tryd.func17, Tryd.ntmps17
 obtain ⟨d0, d1, d2, d3⟩ := box3 X1.out
 obtain ⟨e0, e1, e2, e3⟩ := box3 Y1.out
 go_wp2_with fail
 refine (valid_yes a HA.out A B cp cq m _ HM.out (HG.out.keep B0.out)).mono ?_
 rintro e w1 ⟨rfl, hb1⟩
 have X2 := hide (X1.out.below hb1)
 have Y2 := hide (Y1.out.below hb1)
 have B1 := hide (B0.out.trans (hb1.mono B0.out.size))
 clear X1 Y1 B0 hb1 d0 d1 d2 d3 e0 e1 e2 e3
 obtain ⟨d0, d1, d2, d3⟩ := box3 X2.out
 obtain ⟨e0, e1, e2, e3⟩ := box3 Y2.out
 go_wp2_with fail
 refine (valid_yes b HB.out C D cp' cq' m' _ HM'.out (HG'.out.keep B1.out)).mono ?_
 rintro e w2 ⟨rfl, hb2⟩
 have X3 := hide (X2.out.below hb2)
 have Y3 := hide (Y2.out.below hb2)
 have B2 := hide (B1.out.trans (hb2.mono B1.out.size))
 clear X2 Y2 B1 hb2 d0 d1 d2 d3 e0 e1 e2 e3
 obtain ⟨d0, d1, d2, d3⟩ := box3 X3.out
 obtain ⟨e0, e1, e2, e3⟩ := box3 Y3.out
 go_upto_region 3 with fail
 have BD := hide (show Below w.heap.size w w2.drew from B2.out.drew)
 have DA := hide (HG.out.keep BD.out)
 have XD := hide (X3.out.below (Below.refl w2.heap.size w2).drew)
 have YD := hide (Y3.out.below (Below.refl w2.heap.size w2).drew)
 have DB := hide (HG'.out.keep BD.out)
 go_region_with (first
  | (go_at_call 43
     have hx := hba
     refine (code_yes b HB.out hb20 C D cp' cq' m' _ HM'.out (DB.out.keep hx)).mono ?_
     rintro e wb ⟨A8, n8, c8, qs, rfl, q1, q2, q3, q4, hbc⟩)
  | (go_at_call 43
     have hx := hbb
     refine (code_yes a HA.out ha20 A B cp cq m _ HM.out (DA.out.keep hx)).mono ?_
     rintro e wa ⟨A7, n7, c7, ps, rfl, p1, p2, p3, p4, hbc⟩)
  | (go_at_call 43
     refine (code_yes a HA.out ha20 A B cp cq m _ HM.out DA.out).mono ?_
     rintro e wa ⟨A7, n7, c7, ps, rfl, p1, p2, p3, p4, hba⟩
     obtain ⟨k0, k1, k2, k3⟩ := box3 (YD.out.below hba))
  | (go_at_call 43
     refine (code_yes b HB.out hb20 C D cp' cq' m' _ HM'.out DB.out).mono ?_
     rintro e wb ⟨A8, n8, c8, qs, rfl, q1, q2, q3, q4, hbb⟩
     obtain ⟨k0, k1, k2, k3⟩ := box3 (XD.out.below hbb))
  | (go_at_call 42
     have hx := hba
     have p4' := p4.keep hbc
     refine (eq_ints A7 A8 n7 n8 c7 c8 _ _ _ p4' q4 (pcode_pos p4') (pcode_pos q4) (by omega) (by omega)).mono ?_
     rintro e w9 ⟨rfl, hb9⟩
     rw [same_vb HA.out.wf HB.out.wf p1 q1 p2 q2]
     have HF := hide (BD.out.trans ((hx.trans ((hbc.trans (hb9.mono hbc.size)).mono hx.size)).mono BD.out.size)))
  | (go_at_call 42
     have hx := hbb
     have q4' := q4.keep hbc
     refine (eq_ints A7 A8 n7 n8 c7 c8 _ _ _ p4 q4' (pcode_pos p4) (pcode_pos q4') (by omega) (by omega)).mono ?_
     rintro e w9 ⟨rfl, hb9⟩
     rw [same_vb HA.out.wf HB.out.wf p1 q1 p2 q2]
     have HF := hide (BD.out.trans ((hx.trans ((hbc.trans (hb9.mono hbc.size)).mono hx.size)).mono BD.out.size))))
 all_goals (go_wp2_with fail)
 all_goals (go_ret; exact ⟨rfl, HF.out⟩)
theorem same_yes (a b : Pl.Dg) (ha : Pl.Valid a) (hb : Pl.Valid b) (ha20 : a.n < 20) (hb20 : b.n < 20) (A B C D : Option Addr) (cp cq m cp' cq' m' : Nat) (w : World) (hm : m = 4 * a.n) (hg : DgAt w A B a) (hm' : m' = 4 * b.n) (hg' : DgAt w C D b) :
 Calls Tryd.prog 17 #[.agg #[.slice A a.n cp, .slice B m cq, .int .i64 a.lp], .agg #[.slice C b.n cp', .slice D m' cq', .int .i64 b.lp]] w fun e w' => e = .returned (.bool (Pl.vb (∃ σ, Pl.Iso a b σ))) ∧ Below w.heap.size w w' :=
 same_yes20 a b ha hb (Nat.le_of_lt ha20) (Nat.le_of_lt hb20) A B C D cp cq m cp' cq' m' w hm hg hm' hg'
end Go.Proofs.YtcaoblilkgajoaaDoor
end
section
namespace Go.Proofs.YtcaoblilkgajoaaDoor.Pl
/-- A braid is valid. -/
def BV (s : Int) (ws : List Int) : Prop := 1 ≤ s ∧ s ≤ 10 ∧ ws.length ≤ 200 ∧ ∀ x, x ∈ ws → x ≠ 0 ∧ -s < x ∧ x < s
/-- The letters i - 1 and i exchanged. -/
def swp (l : List Nat) (i : Nat) : List Nat := (l.set (i - 1) (l.getD i 0)).set i (l.getD (i - 1) 0)
/-- Which strand lies at each position. -/
def pmA (n : Nat) (ws : List Int) : List Nat := ws.foldl (fun l x => swp l x.natAbs) (List.range n)
def tr1 (at_ : Nat) (x : Int) : Nat := if at_ = x.natAbs - 1 then x.natAbs else if at_ = x.natAbs then x.natAbs - 1 else at_
/-- Where a strand ends. -/
def trk (p : Nat) (ws : List Int) : Nat := ws.foldl tr1 p
def pmR (n : Nat) (ws : List Int) : List Nat := (List.range n).map (fun p => trk p ws)
theorem pmA_snoc (n : Nat) (ws : List Int) (x : Int) : pmA n (ws ++ [x]) = swp (pmA n ws) x.natAbs := by unfold pmA; rw [List.foldl_append]; rfl
theorem trk_snoc (p : Nat) (ws : List Int) (x : Int) : trk p (ws ++ [x]) = tr1 (trk p ws) x := by unfold trk; rw [List.foldl_append]; rfl
theorem swp_len (l : List Nat) (i : Nat) : (swp l i).length = l.length := by unfold swp; simp
theorem pmA_len (n : Nat) (ws : List Int) : (pmA n ws).length = n := by
 have key : ∀ (ws : List Int) (l : List Nat), (ws.foldl (fun l x => swp l x.natAbs) l).length = l.length := by
  intro ws
  induction ws with
  | nil => intro l; rfl
  | cons x ws ih => intro l; rw [List.foldl_cons, ih, swp_len]
 unfold pmA
 rw [key, List.length_range]
theorem pmR_len (n : Nat) (ws : List Int) : (pmR n ws).length = n := by unfold pmR; simp
/-- A letter between strands. -/
def LetOk (n : Nat) (x : Int) : Prop := 1 ≤ x.natAbs ∧ x.natAbs < n
theorem BV.ok {s : Int} {ws : List Int} (h : BV s ws) : ∀ x, x ∈ ws → LetOk s.toNat x := fun x hx => by
 have h1 := h.2.2.2 x hx
 have h2 := h.1
 constructor
 ·omega
 ·omega
theorem swp_get {l : List Nat} {x : Int} {n : Nat} (hl : l.length = n) (hx : LetOk n x) {i : Nat} (hi : i < n) : (swp l x.natAbs).getD i 0 = l.getD (tr1 i x) 0 := by
 have h1 := hx.1
 have h2 := hx.2
 unfold swp tr1
 rw [List.getD_eq_getElem?_getD, List.getElem?_set, List.getElem?_set, List.length_set]
 by_cases e1 : x.natAbs = i
 ·subst e1
  rw [if_pos rfl, if_pos (by omega), if_neg (by omega), if_pos rfl]
  rfl
 ·rw [if_neg e1]
  by_cases e2 : x.natAbs - 1 = i
  ·rw [if_pos e2, if_pos (by omega), if_pos e2.symm]
   rfl
  ·rw [if_neg e2, if_neg (fun e => e2 e.symm), if_neg (fun e => e1 e.symm), ← List.getD_eq_getElem?_getD]
theorem tr1_lt {n i : Nat} {x : Int} (hx : LetOk n x) (hi : i < n) : tr1 i x < n := by
 have h1 := hx.1
 have h2 := hx.2
 unfold tr1
 split
 ·omega
 ·split <;> omega
theorem tr1_tr1 {n : Nat} {x : Int} (hx : LetOk n x) (i : Nat) : tr1 (tr1 i x) x = i := by
 have h1 := hx.1
 unfold tr1
 by_cases e1 : i = x.natAbs - 1
 ·rw [if_pos e1, if_neg (by omega), if_pos rfl, e1]
 ·rw [if_neg e1]
  by_cases e2 : i = x.natAbs
  ·rw [if_pos e2, if_pos rfl, e2]
  ·rw [if_neg e2, if_neg e1, if_neg e2]
/-- Positions and strands fit together. -/
theorem pm_fit (n : Nat) : ∀ (k : Nat) (ws : List Int), ws.length = k → (∀ x, x ∈ ws → LetOk n x) → (∀ p, p < n → trk p ws < n ∧ (pmA n ws).getD (trk p ws) 0 = p) ∧ ∀ i, i < n → (pmA n ws).getD i 0 < n ∧ trk ((pmA n ws).getD i 0) ws = i := by
 intro k
 induction k with
 | zero =>
   intro ws hl _
   obtain rfl := List.eq_nil_of_length_eq_zero hl
   have e : ∀ i, i < n → (pmA n []).getD i 0 = i := fun i hi => by
    show (List.range n).getD i 0 = i
    rw [List.getD_eq_getElem?_getD, List.getElem?_range hi]; rfl
   exact ⟨fun p hp => ⟨hp, e p hp⟩, fun i hi => ⟨by rw [e i hi]; exact hi, e i hi⟩⟩
 | succ k ih =>
   intro ws hl hok
   have hne : ws ≠ [] := by intro e; rw [e] at hl; simp at hl
   obtain ⟨vs, x, rfl⟩ : ∃ vs x, ws = vs ++ [x] := ⟨ws.dropLast, ws.getLast hne, (List.dropLast_concat_getLast hne).symm⟩
   obtain ⟨h1, h2⟩ := ih vs (by simpa using hl) (fun y hy => hok y (by simp [hy]))
   have hx : LetOk n x := hok x (by simp)
   have hlen := pmA_len n vs
   refine ⟨fun p hp => ?_, fun i hi => ?_⟩
   ·obtain ⟨a1, a2⟩ := h1 p hp
    rw [trk_snoc, pmA_snoc]
    refine ⟨tr1_lt hx a1, ?_⟩
    rw [swp_get hlen hx (tr1_lt hx a1), tr1_tr1 hx, a2]
   ·obtain ⟨a1, a2⟩ := h2 (tr1 i x) (tr1_lt hx hi)
    rw [pmA_snoc, swp_get hlen hx hi]
    refine ⟨a1, ?_⟩
    rw [trk_snoc, a2, tr1_tr1 hx]
/-- The permutation, written strand by strand. -/
def ivL (A : List Nat) (n : Nat) : Nat → List Nat
 | 0 => List.replicate n 0
 | k + 1 => (ivL A n k).set (A.getD k 0) k
theorem ivL_len (A : List Nat) (n : Nat) : ∀ k, (ivL A n k).length = n
 | 0 => by simp [ivL]
 | k + 1 => by simp [ivL, ivL_len A n k]
theorem ivL_at {A : List Nat} {n : Nat} {f : Nat → Nat} (hA : ∀ i, i < n → A.getD i 0 < n ∧ f (A.getD i 0) = i) : ∀ k, k ≤ n → ∀ i, i < k → (ivL A n k).getD (A.getD i 0) 0 = i
 | 0, _, i, hi => by omega
 | k + 1, hk, i, hi => by
   have h0 := hA k (by omega)
   have h1 := hA i (by omega)
   show ((ivL A n k).set (A.getD k 0) k).getD (A.getD i 0) 0 = i
   rw [List.getD_eq_getElem?_getD, List.getElem?_set]
   by_cases e : A.getD k 0 = A.getD i 0
   ·rw [if_pos e, if_pos (by rw [ivL_len]; exact h0.1)]
    rw [e, h1.2] at h0
    exact h0.2.symm
   ·rw [if_neg e, ← List.getD_eq_getElem?_getD]
    refine ivL_at hA k (by omega) i ?_
    rcases Nat.lt_or_ge i k with h | h
    ·exact h
    ·exact absurd (show A.getD k 0 = A.getD i 0 by rw [show i = k by omega]) e
/-- THE PERMUTATION, BY POSITIONS OR BY STRANDS. -/
theorem perm_eq {n : Nat} {ws : List Int} (hok : ∀ x, x ∈ ws → LetOk n x) : ivL (pmA n ws) n n = pmR n ws := by
 obtain ⟨h1, h2⟩ := pm_fit n _ ws rfl hok
 refine List.ext_getElem? fun p => ?_
 rcases Nat.lt_or_ge p n with hp | hp
 ·obtain ⟨a1, a2⟩ := h1 p hp
  have := ivL_at (A := pmA n ws) (f := fun x => trk x ws) h2 n (Nat.le_refl _) _ a1
  rw [a2] at this
  unfold pmR
  rw [List.getElem?_map, List.getElem?_range hp]
  have hl : p < (ivL (pmA n ws) n n).length := by rw [ivL_len]; exact hp
  rw [List.getD_eq_getElem?_getD, List.getElem?_eq_getElem hl] at this
  rw [List.getElem?_eq_getElem hl]
  exact congrArg some this
 ·rw [List.getElem?_eq_none (by rw [ivL_len]; exact hp), List.getElem?_eq_none (by rw [pmR_len]; exact hp)]
end Go.Proofs.YtcaoblilkgajoaaDoor.Pl
end
section
namespace Go.Proofs.YtcaoblilkgajoaaDoor.Pl
/-- Two half-edges become mates. -/
def jnn (l : List Nat) (a b : Nat) : List Nat := (l.set a b).set b a
/-- While a closure is made: the mates, and for each position its first and its last half-edge. -/
structure ClS where
 mt : List Nat
 fi : List Int
 la : List Int
deriving DecidableEq
/-- A strand passes a crossing. -/
def clPass (q : ClS) (p i o : Nat) : ClS :=
 if q.la.getD p (-1) < 0 then ⟨q.mt, q.fi.set p (i : Int), q.la.set p (o : Int)⟩ else ⟨jnn q.mt (q.la.getD p (-1)).toNat i, q.fi, q.la.set p (o : Int)⟩
def clStep (q : ClS) (k : Nat) (x : Int) : ClS :=
 if x < 0 then clPass (clPass q (x.natAbs - 1) (4 * k) (4 * k + 3)) x.natAbs (4 * k + 1) (4 * k + 2)
 else clPass (clPass q (x.natAbs - 1) (4 * k + 3) (4 * k + 2)) x.natAbs (4 * k) (4 * k + 1)
def clK (n : Nat) (ws : List Int) : Nat → ClS
 | 0 => ⟨List.replicate (4 * ws.length) 0, List.replicate n (-1), List.replicate n (-1)⟩
 | k + 1 => clStep (clK n ws k) k (ws.getD k 0)
def clEnd (q : ClS) : Nat → List Nat × Nat
 | 0 => (q.mt, 0)
 | p + 1 => if q.la.getD p (-1) < 0 then ((clEnd q p).1, (clEnd q p).2 + 1) else (jnn (clEnd q p).1 (q.la.getD p (-1)).toNat (q.fi.getD p (-1)).toNat, (clEnd q p).2)
def clSg (ws : List Int) : List Int := ws.map (fun x => if x < 0 then -1 else 1)
/-- The closure. -/
def clD (n : Nat) (ws : List Int) : Dg := ⟨clSg ws, (clEnd (clK n ws ws.length) n).1, (clEnd (clK n ws ws.length) n).2⟩
theorem jnn_len (l : List Nat) (a b : Nat) : (jnn l a b).length = l.length := by unfold jnn; simp
theorem clPass_len (q : ClS) (p i o : Nat) : (clPass q p i o).mt.length = q.mt.length ∧ (clPass q p i o).fi.length = q.fi.length ∧ (clPass q p i o).la.length = q.la.length := by
 unfold clPass
 split
 ·simp
 ·simp [jnn_len]
theorem clStep_len (q : ClS) (k : Nat) (x : Int) : (clStep q k x).mt.length = q.mt.length ∧ (clStep q k x).fi.length = q.fi.length ∧ (clStep q k x).la.length = q.la.length := by
 unfold clStep
 split <;> simp [clPass_len]
theorem clK_len (n : Nat) (ws : List Int) : ∀ k, (clK n ws k).mt.length = 4 * ws.length ∧ (clK n ws k).fi.length = n ∧ (clK n ws k).la.length = n
 | 0 => by simp [clK]
 | k + 1 => by
   have := clK_len n ws k
   have := clStep_len (clK n ws k) k (ws.getD k 0)
   unfold clK
   omega
theorem clEnd_cnt (q : ClS) : ∀ k, (clEnd q k).2 ≤ k
 | 0 => Nat.le_refl _
 | k + 1 => by
   have := clEnd_cnt q k
   unfold clEnd
   split
   ·show (clEnd q k).2 + 1 ≤ k + 1
    omega
   ·show (clEnd q k).2 ≤ k + 1
    omega
/-- The half-edges that are kept lie below 4 k. -/
def ClB (q : ClS) (K : Nat) : Prop := (∀ p, q.la.getD p (-1) < K ∧ -1 ≤ q.la.getD p (-1)) ∧ ∀ p, q.fi.getD p (-1) < K ∧ -1 ≤ q.fi.getD p (-1) ∧ (0 ≤ q.la.getD p (-1) → 0 ≤ q.fi.getD p (-1))
theorem getD_setI (l : List Int) (a b : Nat) (x : Int) : (l.set a x).getD b (-1) = if a = b ∧ a < l.length then x else l.getD b (-1) := by
 rw [List.getD_eq_getElem?_getD, List.getElem?_set]
 by_cases e : a = b
 ·subst e
  by_cases h : a < l.length
  ·rw [if_pos rfl, if_pos h, if_pos ⟨rfl, h⟩]; rfl
  ·rw [if_pos rfl, if_neg h, if_neg (fun e => h e.2), List.getD_eq_getElem?_getD, List.getElem?_eq_none (by omega)]
 ·rw [if_neg e, if_neg (fun h => e h.1), ← List.getD_eq_getElem?_getD]
theorem clPass_b {q : ClS} {K p i o : Nat} (h : ClB q K) (hi : i < K) (ho : o < K) (hl : q.fi.length = q.la.length) : ClB (clPass q p i o) K := by
 unfold clPass
 split
 ·refine ⟨fun r => ?_, fun r => ?_⟩
  ·have := h.1 r
   show ((q.la.set p (o : Int)).getD r (-1) < K ∧ -1 ≤ (q.la.set p (o : Int)).getD r (-1))
   rw [getD_setI]
   split <;> omega
  ·have h1 := h.1 r
   have h2 := h.2 r
   show ((q.fi.set p (i : Int)).getD r (-1) < K ∧ -1 ≤ (q.fi.set p (i : Int)).getD r (-1) ∧ (0 ≤ (q.la.set p (o : Int)).getD r (-1) → 0 ≤ (q.fi.set p (i : Int)).getD r (-1)))
   rw [getD_setI, getD_setI, hl]
   split <;> omega
 ·refine ⟨fun r => ?_, fun r => ?_⟩
  ·have := h.1 r
   show ((q.la.set p (o : Int)).getD r (-1) < K ∧ -1 ≤ (q.la.set p (o : Int)).getD r (-1))
   rw [getD_setI]
   split <;> omega
  ·have h1 := h.1 r
   have h2 := h.2 r
   show (q.fi.getD r (-1) < K ∧ -1 ≤ q.fi.getD r (-1) ∧ (0 ≤ (q.la.set p (o : Int)).getD r (-1) → 0 ≤ q.fi.getD r (-1)))
   rw [getD_setI]
   rename_i hn
   refine ⟨h2.1, h2.2.1, fun hh => ?_⟩
   split at hh
   ·rename_i e
    obtain ⟨e, _⟩ := e
    subst e
    exact h2.2.2 (by omega)
   ·exact h2.2.2 hh
theorem ClB.mono {q : ClS} {K L : Nat} (h : ClB q K) (hl : K ≤ L) : ClB q L := ⟨fun p => by have := h.1 p; omega, fun p => by have := h.2 p; omega⟩
theorem clK_b (n : Nat) (ws : List Int) : ∀ k, ClB (clK n ws k) (4 * k)
 | 0 => by
   have e : ∀ p, (List.replicate n (-1 : Int)).getD p (-1) = -1 := fun p => by
    rw [List.getD_eq_getElem?_getD, List.getElem?_replicate]
    split <;> rfl
   refine ⟨fun p => ?_, fun p => ?_⟩
   ·show (List.replicate n (-1 : Int)).getD p (-1) < ((4 * 0 : Nat) : Int) ∧ -1 ≤ (List.replicate n (-1 : Int)).getD p (-1)
    rw [e]; omega
   ·show (List.replicate n (-1 : Int)).getD p (-1) < ((4 * 0 : Nat) : Int) ∧ -1 ≤ (List.replicate n (-1 : Int)).getD p (-1) ∧ (0 ≤ (List.replicate n (-1 : Int)).getD p (-1) → 0 ≤ (List.replicate n (-1 : Int)).getD p (-1))
    rw [e]; omega
 | k + 1 => by
   have h := (clK_b n ws k).mono (show 4 * k ≤ 4 * (k + 1) by omega)
   have hl := clK_len n ws k
   unfold clK clStep
   split
   ·refine clPass_b (clPass_b h (by omega) (by omega) (by omega)) (by omega) (by omega) ?_
    have := clPass_len (clK n ws k) ((ws.getD k 0).natAbs - 1) (4 * k) (4 * k + 3)
    omega
   ·refine clPass_b (clPass_b h (by omega) (by omega) (by omega)) (by omega) (by omega) ?_
    have := clPass_len (clK n ws k) ((ws.getD k 0).natAbs - 1) (4 * k + 3) (4 * k + 2)
    omega
end Go.Proofs.YtcaoblilkgajoaaDoor.Pl
end
section
namespace Go.Proofs.YtcaoblilkgajoaaDoor
open Go Go.RowKit
attribute [local go_sem ↓] Go.wp_at_zero Go.wp_at_succ
theorem box2b {W : World} {g : Nat} {t : TypeId} {a b : Value} (h : Row W g t [a, b]) : W.cell? ⟨g, 0, none⟩ = some a ∧ W.cell? ⟨g, 1, none⟩ = some b ∧ ∀ o, W.frozen? ⟨g, o, none⟩ = false :=
 ⟨h.cell (i := 0) (by simp), h.cell (i := 1) (by simp), h.free⟩
theorem generator_any (x : Int) (w : World) (h : -1000000 ≤ x ∧ x ≤ 1000000) :
 Calls Tryd.prog 38 #[.int .i64 x] w fun e w' => e = .returned (.int .i64 (x.natAbs : Int)) ∧ w' = w := by
 go_enter Tryd.func38, Tryd.ntmps38
 go_wp2
 go_ret
 refine ⟨ret_int ?_, rfl⟩
 omega
set_option maxRecDepth 100000 in
set_option maxHeartbeats 2000000 in
theorem bvalid_any (s : Int) (ws : List Int) (A : Option Addr) (n c : Nat) (w : World) (hw : IntsAt w A n ws) (hn : n ≤ maxLen) :
 Calls Tryd.prog 16 #[.agg #[.int .i64 s, .slice A n c]] w fun e w' => e = .returned (.bool (Pl.vb (Pl.BV s ws))) ∧ Below w.heap.size w w' := by
 unfold maxLen at hn
 have hl := hw.len
 have HL := hide hl
 have HW := hide hw
 clear hw
 have X0 := hide (row_at (W := w) (g := w.heap.size) (t := 24) (vs := [.int .i64 s, .slice A n c]) rfl)
 have B0 := hide (show Below w.heap.size w (w.alloc (.cells #[.int .i64 s, .slice A n c] 24)) from (Below.refl _ _).alloc (Nat.le_refl _) _)
 obtain ⟨d0, d1, d2⟩ := box2b X0.out
 have no : ∀ {p : Prop}, ¬ Pl.BV s ws → Ending.returned (Value.bool false) = Ending.returned (.bool (Pl.vb (Pl.BV s ws))) := fun h => by rw [Pl.vb_false h]
 have NO := hide (@no True)
 clear no
 by_cases h1 : s < 1
 ·have HF := hide (NO.out (fun h => by have := h.1; omega))
  clear hl
  go_enter Tryd.func16, Tryd.ntmps16
  go_wp2
  go_ret
  exact ⟨HF.out, B0.out⟩
 ·by_cases h2 : (10 : Int) < s
  ·have HF := hide (NO.out (fun h => by have := h.2.1; omega))
   clear hl
   go_enter Tryd.func16, Tryd.ntmps16
   go_wp2
   go_ret
   exact ⟨HF.out, B0.out⟩
  ·by_cases h3 : (200 : Int) < (n : Int)
   ·have HF := hide (NO.out (fun h => by have := h.2.2.1; omega))
    clear hl
    go_enter Tryd.func16, Tryd.ntmps16
    go_wp2
    go_ret
    exact ⟨HF.out, B0.out⟩
   ·clear hl
    go_enter Tryd.func16, Tryd.ntmps16
    go_wp2_with fail
    go_loopg [2, 4, 22] n (fun g s2 s4 i wx => ∃ k : Nat, k + g = n ∧ i = .int .i64 (k : Int) ∧ (∀ j, j < k → ws.getD j 0 ≠ 0 ∧ -s < ws.getD j 0 ∧ ws.getD j 0 < s) ∧ wx = w.alloc (.cells #[.int .i64 s, .slice A n c] 24))
    case atStart => exact ⟨0, by omega, rfl, fun j hj => by omega, rfl⟩
    case round =>
     obtain ⟨k, hkg, rfl, hk, rfl⟩ := hrel
     have HKG := hide hkg
     have HK := hide hk
     clear hk
     by_cases hk : k < n
     ·have hki : (k : Int) < (n : Int) := by omega
      have k0 : (0 : Int) ≤ (k : Int) := by omega
      obtain ⟨b, o, rfl, x1⟩ := (HW.out.keep B0.out).at_ hk
      obtain ⟨x, hx⟩ : ∃ x, x = ws.getD k 0 := ⟨_, rfl⟩
      rw [← hx] at x1
      have HX := hide hx
      have HM := hide (show x ∈ ws by
       rw [hx, List.getD_eq_getElem?_getD, List.getElem?_eq_getElem (by rw [HL.out]; exact hk)]
       exact List.getElem_mem _)
      clear hkg hx
      by_cases g1 : x = 0
      ·subst g1
       have HF := hide (NO.out (fun h => (h.2.2.2 _ HM.out).1 rfl))
       go_wp2
       go_ret
       exact ⟨HF.out, B0.out⟩
      ·by_cases g2 : x ≤ -s
       ·have HF := hide (NO.out (fun h => by have := (h.2.2.2 _ HM.out).2.1; omega))
        go_wp2
        go_ret
        exact ⟨HF.out, B0.out⟩
       ·by_cases g3 : s ≤ x
        ·have HF := hide (NO.out (fun h => by have := (h.2.2.2 _ HM.out).2.2; omega))
         go_wp2
         go_ret
         exact ⟨HF.out, B0.out⟩
        ·go_wp2
         go_roundg (gk - 1)
         case measure => have := HKG.out; omega
         case rel => exact ⟨k + 1, by have := HKG.out; omega, by go_num, fun j hj => by
          rcases Nat.lt_or_ge j k with h | h
          ·exact HK.out j h
          ·rw [show j = k by omega, ← HX.out]
           omega, rfl⟩
     ·have hki : ¬ ((k : Int) < (n : Int)) := by omega
      have HT := hide (show Ending.returned (Value.bool true) = Ending.returned (.bool (Pl.vb (Pl.BV s ws))) by
       rw [Pl.vb_true]
       refine ⟨by omega, by omega, by rw [HL.out]; omega, fun x hx => ?_⟩
       obtain ⟨j, hj, rfl⟩ := List.getElem_of_mem hx
       have := HK.out j (by have := HL.out; omega)
       rwa [List.getD_eq_getElem?_getD, List.getElem?_eq_getElem hj] at this)
      clear hkg
      go_wp2
      go_ret
      exact ⟨HT.out, B0.out⟩
end Go.Proofs.YtcaoblilkgajoaaDoor
end
section
namespace Go.Proofs.YtcaoblilkgajoaaDoor
open Go Go.RowKit
attribute [local go_sem ↓] Go.wp_at_zero Go.wp_at_succ
theorem letter_at {ws : List Int} {n k : Nat} (hl : ws.length = n) (hk : k < n) : ∃ x, x ∈ ws ∧ ws.getD k 0 = x ∧ ws.take (k + 1) = ws.take k ++ [x] := by
 have e : ws[k]? = some (ws[k]'(by omega)) := List.getElem?_eq_getElem (by omega)
 exact ⟨_, List.getElem_mem _, by rw [List.getD_eq_getElem?_getD, e]; rfl, Pl.take_one e⟩
end Go.Proofs.YtcaoblilkgajoaaDoor
end
section
namespace Go.Proofs.YtcaoblilkgajoaaDoor
open Go Go.RowKit
attribute [local go_sem ↓] Go.wp_at_zero Go.wp_at_succ
theorem run_perm (n : Nat) (hn : n ≤ 100000) (w : World) : (Instr.makeSlice 43 (.int .i64 (n : Int)) (.int .i64 (n : Int))).run Tryd.prog w = .ok (.slice (some ⟨w.heap.size, 0, none⟩) n n) (w.alloc (.cells (Array.replicate n (Value.int .i64 0)) 3)) := by
 obtain ⟨i0, hi, hz0, hz1, hz2⟩ := info_parts intInfo
 have := run_make (P := Tryd.prog) w 43 3 i0 (.int .i64 0) Tryd.underlying43 hi hz0 .i64 .i64 n n (by omega) (Int.le_refl _) (by rw [hz2]; omega) (by omega)
 rw [hz1, Nat.mul_one, Int.toNat_natCast, show madeCells (Value.cells (.int .i64 0)) n = (List.replicate n (.int .i64 0)).toArray from made_rep _ _] at this
 exact this
theorem range_step (k n : Nat) (h : k < n) : (List.range k ++ List.replicate (n - k) 0).set k k = List.range (k + 1) ++ List.replicate (n - (k + 1)) 0 := by
 have e : n - k = (n - (k + 1)) + 1 := by omega
 rw [e, List.replicate_succ, List.set_append_right _ _ (by simp), List.length_range, Nat.sub_self, List.set_cons_zero, List.range_succ, List.append_assoc]
 rfl
/-- The two rows of Perm. -/
structure PM (w : World) (bv : List Value) (g : Nat) (ns : List Nat) (W : World) : Prop where
 b : Row W w.heap.size 24 bv
 r : IRow W g (nats ns)
 lo : w.heap.size < g
 bel : Below w.heap.size w W
section
variable {w W W' : World} {bv : List Value} {g : Nat} {ns : List Nat}
theorem PM.below (h : PM w bv g ns W) (hb : Below W.heap.size W W') : PM w bv g ns W' :=
 ⟨h.b.below hb, Row.below h.r hb, h.lo, h.bel.trans (hb.mono h.bel.size)⟩
theorem PM.set (h : PM w bv g ns W) (i x : Nat) : PM w bv g (ns.set i x) (W.setCell ⟨g, i, none⟩ (.int .i64 (x : Int))) := by
 refine ⟨h.b.other (by show _ ≠ g; have := h.lo; omega) _, ?_, h.lo, h.bel.setCell (by show _ ≤ g; have := h.lo; omega) _⟩
 have := IRow.set h.r i (x : Int)
 rw [← nats_set] at this
 exact this
theorem PM.cell (h : PM w bv g ns W) {i : Nat} (hi : i < ns.length) : W.cell? ⟨g, i, none⟩ = some (.int .i64 ((ns.getD i 0 : Nat) : Int)) := by
 have := IRow.cell h.r (i := i) (by rw [nats_len]; exact hi)
 rw [this]
 unfold Pl.pv nats
 rw [List.getD_eq_getElem?_getD, List.getD_eq_getElem?_getD, List.getElem?_map, List.getElem?_eq_getElem hi]
 rfl
end
/-- What Perm answers. -/
def PermPost (s : Int) (ws : List Int) (w : World) (e : Ending) (w' : World) : Prop :=
 (¬ Pl.BV s ws → e = .returned (.slice none 0 0)) ∧ (Pl.BV s ws → ∃ g, w.heap.size ≤ g ∧ e = .returned (.slice (some ⟨g, 0, none⟩) s.toNat s.toNat) ∧ IRow w' g (nats (Pl.pmR s.toNat ws))) ∧ Below w.heap.size w w'
set_option maxRecDepth 100000 in
set_option maxHeartbeats 4000000 in
theorem perm_any (s : Int) (ws : List Int) (A : Option Addr) (n c : Nat) (w : World) (hw : IntsAt w A n ws) (hn : n ≤ maxLen) :
 Calls Tryd.prog 23 #[.agg #[.int .i64 s, .slice A n c]] w (PermPost s ws w) := by
 have hn' := hn
 unfold maxLen at hn'
 have HL := hide hw.len
 have HW := hide hw
 clear hw
 have X0 := hide (row_at (W := w) (g := w.heap.size) (t := 24) (vs := [.int .i64 s, .slice A n c]) rfl)
 have B0 := hide (show Below w.heap.size w (w.alloc (.cells #[.int .i64 s, .slice A n c] 24)) from (Below.refl _ _).alloc (Nat.le_refl _) _)
 obtain ⟨d0, d1, d2⟩ := box2b X0.out
 go_enter Tryd.func23, Tryd.ntmps23
 go_wp2_with fail
 refine (bvalid_any s ws A n c _ (HW.out.keep B0.out) hn).mono ?_
 rintro e w1 ⟨rfl, hb1⟩
 have B1 := hide (B0.out.trans (hb1.mono B0.out.size))
 have X1 := hide (X0.out.below hb1)
 clear X0 B0 hb1 d0 d1 d2
 obtain ⟨d0, d1, d2⟩ := box2b X1.out
 by_cases hv : Pl.BV s ws
 ·rw [Pl.vb_true hv]
  have HV := hide hv
  have HOK := hide hv.ok
  have hn2 : n ≤ 200 := by rw [← HL.out]; exact hv.2.2.1
  obtain ⟨q, hq⟩ : ∃ q : Nat, s = (q : Int) := ⟨s.toNat, by have := hv.1; omega⟩
  have hq1 : 1 ≤ q := by have := hv.1; omega
  have hq10 : q ≤ 10 := by have := hv.2.1; omega
  subst hq
  rw [Int.toNat_natCast] at HOK
  clear hv
  have hmk := fun W : World => run_ints q (by omega) W
  have hmp := fun W : World => run_perm q (by omega) W
  have P0 := hide (show PM w [.int .i64 (q : Int), .slice A n c] w1.heap.size (List.range 0 ++ List.replicate (q - 0) 0) (w1.alloc (.cells (Array.replicate q (Value.int .i64 0)) 3)) from
   ⟨X1.out.alloc _, by
     have h := IRow.made w1 q
     simpa [nats] using h, X1.out.lt, B1.out.alloc B1.out.size _⟩)
  have hlo : w.heap.size < w1.heap.size := X1.out.lt
  go_upto_region 4 with fail
  obtain ⟨g, hg⟩ : ∃ g, g = w1.heap.size := ⟨_, rfl⟩
  rw [← hg] at P0 ⊢
  clear hg d0 d1 d2 X1 hmk hlo
  go_wp2_with fail
  go_loopg [4, 19] q (fun gg s4 i wx => ∃ k : Nat, k + gg = q ∧ i = .int .i64 (k : Int) ∧ PM w [.int .i64 (q : Int), .slice A n c] g (List.range k ++ List.replicate (q - k) 0) wx)
  case atStart => exact ⟨0, by omega, rfl, P0.out⟩
  case round =>
   clear P0
   obtain ⟨k, hkg, rfl, hp⟩ := hrel
   have HKG := hide hkg
   have P1 := hide hp
   have hkq : k ≤ q := by omega
   clear hp hkg
   by_cases hk : k < q
   ·have hki : (k : Int) < (q : Int) := by omega
    have k0 : (0 : Int) ≤ (k : Int) := by omega
    have c1 := P1.out.cell (i := k) (by simp; omega)
    have f1 := Row.free P1.out.r k
    go_wp2
    go_roundg (gk - 1)
    case measure => have := HKG.out; omega
    case rel => exact ⟨k + 1, by have := HKG.out; omega, by go_num, by
     have h := P1.out.set k k
     rw [range_step k q hk] at h
     exact h⟩
   ·have hki : ¬ ((k : Int) < (q : Int)) := by omega
    have Q0 := hide (show PM w [.int .i64 (q : Int), .slice A n c] g (Pl.pmA q (ws.take 0)) wr from by
     have h := P1.out
     rw [show k = q by omega, Nat.sub_self, List.replicate_zero, List.append_nil] at h
     exact h)
    obtain ⟨d0, d1, d2⟩ := box2b P1.out.b
    clear P1 hk HKG hkq
    go_wp2_with fail
    go_loopg [6, 7, 30] n (fun gg s6 s7 i wx => ∃ k : Nat, k + gg = n ∧ i = .int .i64 (k : Int) ∧ PM w [.int .i64 (q : Int), .slice A n c] g (Pl.pmA q (ws.take k)) wx)
    case atStart => exact ⟨0, by omega, rfl, Q0.out⟩
    case round =>
     clear Q0
     obtain ⟨k, hkg, rfl, hp⟩ := hrel
     have HKG := hide hkg
     have P1 := hide hp
     have hkn : k ≤ n := by omega
     clear hp hkg d0 d1 d2
     obtain ⟨go, rfl⟩ : ∃ go, go = gk := ⟨_, rfl⟩
     by_cases hk : k < n
     ·have hki : (k : Int) < (n : Int) := by omega
      have k0 : (0 : Int) ≤ (k : Int) := by omega
      obtain ⟨b, o, rfl, x1⟩ := (HW.out.keep P1.out.bel).at_ hk
      obtain ⟨x, hxm, hx, hxt⟩ := letter_at HL.out hk
      rw [hx] at x1
      have HXT := hide (show Pl.pmA q (ws.take (k + 1)) = Pl.swp (Pl.pmA q (ws.take k)) x.natAbs by rw [hxt, Pl.pmA_snoc])
      have hlx := HOK.out x hxm
      obtain ⟨m, hm⟩ : ∃ m, m = x.natAbs := ⟨_, rfl⟩
      obtain ⟨ns, hns⟩ : ∃ ns, ns = Pl.pmA q (ws.take k) := ⟨_, rfl⟩
      have HLN := hide (show ns.length = q by rw [hns]; exact Pl.pmA_len _ _)
      have hxb : -1000000 ≤ x ∧ x ≤ 1000000 := by have := hlx.2; omega
      rw [← hns] at P1 HXT
      rw [← hm] at HXT
      have hm1 : 1 ≤ m := by rw [hm]; exact hlx.1
      have hm2 : m < q := by rw [hm]; exact hlx.2
      have HMX := hide hm
      clear hx hxt hxm hlx hm hns
      go_wp2_with fail
      refine (generator_any x wr hxb).mono ?_
      rintro e w2 ⟨rfl, rfl⟩
      rw [← HMX.out]
      clear x1 hxb
      obtain ⟨j, rfl⟩ : ∃ j, m = j + 1 := ⟨m - 1, by omega⟩
      have c1 := P1.out.cell (i := j) (by rw [HLN.out]; omega)
      have c2 := P1.out.cell (i := j + 1) (by rw [HLN.out]; omega)
      have f1 := Row.free P1.out.r
      have i1 : (0 : Int) ≤ (j : Int) := by omega
      have i2 : (j : Int) < (q : Int) := by omega
      have i3 : (j : Int) + 1 < (q : Int) := by omega
      obtain ⟨y1, hy1⟩ : ∃ y, y = ns.getD j 0 := ⟨_, rfl⟩
      obtain ⟨y2, hy2⟩ : ∃ y, y = ns.getD (j + 1) 0 := ⟨_, rfl⟩
      rw [← hy1] at c1
      rw [← hy2] at c2
      have HY := hide (show Pl.swp ns (j + 1) = (ns.set j y2).set (j + 1) y1 by rw [hy1, hy2]; rfl)
      clear hy1 hy2
      go_upto_region 13 with fail
      go_region
      all_goals (go_wp2_with fail)
      go_roundg (go - 1)
      case measure => have := HKG.out; omega
      case rel => exact ⟨k + 1, by have := HKG.out; omega, by go_num, by
       rw [HXT.out, HY.out]
       exact ((P1.out.set j y2).set (j + 1) y1).below (Below.refl _ _).drew⟩
     ·have hki : ¬ ((k : Int) < (n : Int)) := by omega
      have HT := hide (show ws.take k = ws from List.take_of_length_le (by have := HL.out; omega))
      have Q1 := hide (show PM w [.int .i64 (q : Int), .slice A n c] g (Pl.pmA q ws) wr from by have h := P1.out; rw [HT.out] at h; exact h)
      have HFIT := hide (show ∀ i, i < q → (Pl.pmA q ws).getD i 0 < q from fun i hi => ((Pl.pm_fit q _ ws rfl HOK.out).2 i hi).1)
      have HEQ := hide (Pl.perm_eq HOK.out)
      obtain ⟨ns, hns⟩ : ∃ ns, ns = Pl.pmA q ws := ⟨_, rfl⟩
      have HLN := hide (show ns.length = q by rw [hns]; exact Pl.pmA_len _ _)
      rw [← hns] at Q1 HFIT HEQ
      obtain ⟨d0, d1, d2⟩ := box2b Q1.out.b
      have hgw : g < wr.heap.size := Row.lt Q1.out.r
      have R0 := hide (show PM w [.int .i64 (q : Int), .slice A n c] g ns (wr.alloc (.cells (Array.replicate q (Value.int .i64 0)) 3)) ∧ IRow (wr.alloc (.cells (Array.replicate q (Value.int .i64 0)) 3)) wr.heap.size (nats (Pl.ivL ns q 0)) from
       ⟨Q1.out.below ((Below.refl _ _).alloc (Nat.le_refl _) _), by
         have h := IRow.made wr q
         simpa [nats, Pl.ivL] using h⟩)
      clear P1 hk HKG hkn hns HT
      go_upto_region 16 with fail
      obtain ⟨gp, hgp⟩ : ∃ g, g = wr.heap.size := ⟨_, rfl⟩
      rw [← hgp] at R0 hgw ⊢
      clear hgp Q1 hmp d0 d1 d2
      go_wp2_with fail
      go_loopg [9, 10, 58] q (fun gg s9 s10 i wx => ∃ k : Nat, k + gg = q ∧ i = .int .i64 (k : Int) ∧ PM w [.int .i64 (q : Int), .slice A n c] g ns wx ∧ IRow wx gp (nats (Pl.ivL ns q k)))
      case atStart => exact ⟨0, by omega, rfl, R0.out⟩
      case round =>
       clear R0
       obtain ⟨k, hkg, rfl, hp, hr⟩ := hrel
       have HKG := hide hkg
       have P1 := hide hp
       have R1 := hide hr
       have hkq : k ≤ q := by omega
       clear hp hr hkg
       obtain ⟨gi, rfl⟩ : ∃ gi, gi = gk := ⟨_, rfl⟩
       by_cases hk : k < q
       ·have hki : (k : Int) < (q : Int) := by omega
        have k0 : (0 : Int) ≤ (k : Int) := by omega
        have c1 := P1.out.cell (i := k) (by rw [HLN.out]; exact hk)
        have hy := HFIT.out k hk
        have HST := hide (show Pl.ivL ns q (k + 1) = (Pl.ivL ns q k).set (ns.getD k 0) k from rfl)
        obtain ⟨y, hyy⟩ : ∃ y, y = ns.getD k 0 := ⟨_, rfl⟩
        rw [← hyy] at c1 hy HST
        have c2 := IRow.cell R1.out (i := y) (by rw [nats_len, Pl.ivL_len]; exact hy)
        have f2 := Row.free R1.out
        have y0 : (0 : Int) ≤ (y : Int) := by omega
        have y1 : (y : Int) < (q : Int) := by omega
        clear hyy
        go_wp2
        go_roundg (gi - 1)
        case measure => have := HKG.out; omega
        case rel => exact ⟨k + 1, by have := HKG.out; omega, by go_num, ⟨P1.out.b.other (by show _ ≠ gp; have := P1.out.lo; omega) _, Row.other P1.out.r (by show _ ≠ gp; omega) _, P1.out.lo, P1.out.bel.setCell (by show _ ≤ gp; have := P1.out.lo; omega) _⟩, by
         rw [HST.out]
         have h := IRow.set R1.out y (k : Int)
         rw [← nats_set] at h
         exact h⟩
       ·have hki : ¬ ((k : Int) < (q : Int)) := by omega
        have HF := hide (show PermPost (q : Int) ws w (.returned (.slice (some ⟨gp, 0, none⟩) q q)) wr from
         ⟨fun h => absurd HV.out h, fun _ => ⟨gp, by have := P1.out.lo; omega, by rw [Int.toNat_natCast], by
           have h := R1.out
           rw [show k = q by omega, HEQ.out] at h
           rw [Int.toNat_natCast]
           exact h⟩, P1.out.bel⟩)
        go_wp2
        go_ret
        exact HF.out
 ·rw [Pl.vb_false hv]
  have HV := hide hv
  clear hv
  go_wp2
  go_ret
  exact ⟨fun _ => rfl, fun h => absurd h HV.out, B1.out⟩
end Go.Proofs.YtcaoblilkgajoaaDoor
end
