/-
  Walks: Same of the reference, at equal diagrams; the law on slides.
-/
import Derived.Test.YtobbepmlmbbamaaXp
import Derived.Test.YtobbepmlmbbamaaXk
import Derived.Test.YtobbepmlmbbamaaXsg
import Derived.Laws.OwnMore
set_option linter.unusedVariables false
set_option linter.unusedSimpArgs false
namespace Go.Proofs.Ytobbepmlmbbamaa
open Go Go.RowKit
attribute [local go_sem ↓] Go.wp_at_zero Go.wp_at_succ

set_option maxRecDepth 100000 in
set_option maxHeartbeats 4000000 in
theorem same_yes (sg mt : List Int) (lp : Int) (A B A2 B2 : Option Addr) (n q cp cq cp2 cq2 : Nat) (w : World) (hs : IntsAt w A n sg) (hm : IntsAt w B q mt) (hs2 : IntsAt w A2 n sg) (hm2 : IntsAt w B2 q mt) (hn : n ≤ 100000) (hq : q ≤ 100000) :
    Calls Try.prog 24 #[.agg #[.slice A n cp, .slice B q cq, .int .i64 lp], .agg #[.slice A2 n cp2, .slice B2 q cq2, .int .i64 lp]] w fun e w' => e = .returned (.bool true) ∧ Below w.heap.size w w' := by
  have HS := hide hs
  have HM := hide hm
  have HS2 := hide hs2
  have HM2 := hide hm2
  clear hs hm hs2 hm2
  have r0 := (row_at (W := w) (g := w.heap.size) (t := 24) (vs := [.slice A n cp, .slice B q cq, .int .i64 lp]) rfl).alloc (.cells #[.slice A2 n cp2, .slice B2 q cq2, .int .i64 lp] 24)
  have r1 := row_at (W := w.alloc (.cells #[.slice A n cp, .slice B q cq, .int .i64 lp] 24)) (g := w.heap.size + 1) (t := 24) (vs := [.slice A2 n cp2, .slice B2 q cq2, .int .i64 lp]) (by simp)
  have b0 : Below w.heap.size w ((w.alloc (.cells #[.slice A n cp, .slice B q cq, .int .i64 lp] 24)).alloc (.cells #[.slice A2 n cp2, .slice B2 q cq2, .int .i64 lp] 24)) := ((Below.refl _ _).alloc (Nat.le_refl _) _).alloc (by simp) _
  have R0 := hide r0
  have R1 := hide r1
  have B0 := hide b0
  clear r0 r1 b0
  go_enter Try.func24, Try.ntmps24
  go_wp2
  go_loopg [5] n (fun g i wx => ∃ k : Nat, k + g = n ∧ i = .int .i64 k ∧ Row wx w.heap.size 24 [.slice A n cp, .slice B q cq, .int .i64 lp] ∧ Row wx (w.heap.size + 1) 24 [.slice A2 n cp2, .slice B2 q cq2, .int .i64 lp] ∧ Below w.heap.size w wx)
  case atStart => exact ⟨0, by omega, rfl, R0.out, R1.out, B0.out⟩
  case round =>
    clear R0 R1 B0
    obtain ⟨k, hkg, rfl, r0, r1, hb⟩ := hrel
    have R0 := hide r0
    have R1 := hide r1
    have HB := hide hb
    have HKG := hide hkg
    obtain ⟨c0, c1, c2, c3⟩ := box3 r0
    obtain ⟨d0, d1, d2, d3⟩ := box3 r1
    clear hb r0 r1
    by_cases hk : k < n
    · have hki : (k : Int) < (n : Int) := by omega
      obtain ⟨b, o, rfl, x1⟩ := (HS.out.keep HB.out).at_ hk
      obtain ⟨b2, o2, rfl, x2⟩ := (HS2.out.keep HB.out).at_ hk
      have k0 : (0 : Int) ≤ (k : Int) := by omega
      obtain ⟨u, hu⟩ : ∃ u, u = sg.getD k 0 := ⟨_, rfl⟩
      rw [← hu] at x1 x2
      clear hu hkg
      go_upto_region 6 with fail
      go_quiet (fail)
      go_wp2
      go_roundg (gk - 1)
      case measure => have := HKG.out; omega
      case rel => exact ⟨k + 1, by have := HKG.out; omega, by go_num, R0.out, R1.out, below_drewN HB.out _⟩
    · have hki : ¬ ((k : Int) < (n : Int)) := by omega
      clear hkg
      go_wp2
      go_loopg [6] q (fun g i wx => ∃ k : Nat, k + g = q ∧ i = .int .i64 k ∧ Row wx w.heap.size 24 [.slice A n cp, .slice B q cq, .int .i64 lp] ∧ Row wx (w.heap.size + 1) 24 [.slice A2 n cp2, .slice B2 q cq2, .int .i64 lp] ∧ Below w.heap.size w wx)
      case atStart => exact ⟨0, by omega, rfl, R0.out, R1.out, HB.out⟩
      case round =>
        clear R0 R1 HB c0 c1 c2 c3 d0 d1 d2 d3 HKG hki hk
        obtain ⟨j, hkg, rfl, r0, r1, hb⟩ := hrel
        have R0 := hide r0
        have R1 := hide r1
        have HB := hide hb
        have HKG := hide hkg
        obtain ⟨c0, c1, c2, c3⟩ := box3 r0
        obtain ⟨d0, d1, d2, d3⟩ := box3 r1
        clear hb r0 r1
        by_cases hk : j < q
        · have hki : (j : Int) < (q : Int) := by omega
          obtain ⟨b, o, rfl, x1⟩ := (HM.out.keep HB.out).at_ hk
          obtain ⟨b2, o2, rfl, x2⟩ := (HM2.out.keep HB.out).at_ hk
          have k0 : (0 : Int) ≤ (j : Int) := by omega
          obtain ⟨u, hu⟩ : ∃ u, u = mt.getD j 0 := ⟨_, rfl⟩
          rw [← hu] at x1 x2
          clear hu hkg
          go_upto_region 11 with fail
          go_quiet (fail)
          go_wp2
          go_roundg (gk - 1)
          case measure => have := HKG.out; omega
          case rel => exact ⟨j + 1, by have := HKG.out; omega, by go_num, R0.out, R1.out, below_drewN HB.out _⟩
        · have hki : ¬ ((j : Int) < (q : Int)) := by omega
          clear hkg
          go_wp2
          go_ret
          exact ⟨rfl, HB.out⟩
theorem apply_slide (d : Pl.Dg) (hd : Pl.Valid d) (A B : Option Addr) (cp cq m h : Nat) (w : World) (hm : m = 4 * d.n) (hg : DgAt w A B d) (hh : h < 4 * d.n) (hi : isT d h) :
    Calls Try.prog 22 #[.agg #[.slice A d.n cp, .slice B m cq, .int .i64 d.lp], .agg #[.int .i64 5, .int .i64 (h : Int), .int .i64 0, .int .i64 0, .bool false]] w fun e w' => ∃ (A9 B9 : Option Addr) (c8 c9 : Nat),
      e = .returned (.tuple #[.agg #[.slice A9 d.n c8, .slice B9 m c9, .int .i64 d.lp], .agg #[.int .i64 5, .int .i64 (sX d h m : Nat), .int .i64 0, .int .i64 0, .bool false], .int .i64 0]) ∧ DgT w' A9 B9 (sldD d h) ∧ Below w.heap.size w w' := by
  refine (apply_any d hd A B cp cq m ⟨5, h, 0, 0, false⟩ w hm hg).mono ?_
  rintro e w' ⟨_, h2, h3⟩
  have hr : inR d.n ⟨5, h, 0, 0, false⟩ := by unfold inR; simp; omega
  have hc : apC d ⟨5, h, 0, 0, false⟩ = 0 := by
    have e1 : Pl.vb (inR d.n ⟨5, (h : Int), 0, 0, false⟩) = true := Pl.vb_true hr
    unfold apC
    rw [e1]
    simp [sldC, hi]
  have eD : apD d ⟨5, h, 0, 0, false⟩ = sldD d h := by unfold apD; simp
  have eI : apI d ⟨5, h, 0, 0, false⟩ = sldI d h := by unfold apI; simp
  obtain ⟨A9, B9, c8, c9, he, hT⟩ := h2 hc
  rw [eD] at hT
  rw [eD, eI, sld_n, ← hm] at he
  refine ⟨A9, B9, c8, c9, ?_, hT, h3⟩
  rw [he, hm]
  rfl
theorem apply_back (d : Pl.Dg) (hd : Pl.Valid d) (A B : Option Addr) (cp cq m h x : Nat) (w : World) (hm : m = 4 * d.n) (hg : DgAt w A B (sldD d h)) (hh : h < m) (hp : slP d h) (hx : x = sX d h m) :
    Calls Try.prog 22 #[.agg #[.slice A d.n cp, .slice B m cq, .int .i64 d.lp], .agg #[.int .i64 5, .int .i64 (x : Int), .int .i64 0, .int .i64 0, .bool false]] w fun e w' => ∃ (A9 B9 : Option Addr) (c8 c9 : Nat),
      e = .returned (.tuple #[.agg #[.slice A9 d.n c8, .slice B9 m c9, .int .i64 d.lp], .agg #[.int .i64 5, .int .i64 (h : Int), .int .i64 0, .int .i64 0, .bool false], .int .i64 0]) ∧ DgT w' A9 B9 d ∧ Below w.heap.size w w' := by
  have hw := (Pl.Valid.iff.1 hd).1
  have hh4 : h < 4 * d.n := by omega
  obtain ⟨p1, p2, p3⟩ := hp
  obtain ⟨x1, x2, _⟩ := sX_v hw hh4 p3.1
  rw [← hm, ← hx] at x1 x2
  have a := apply_slide (sldD d h) (sld_valid hd hh4 p3.1) A B cp cq m x w hm hg (by rw [sld_n]; omega) (isT_new hd hh4 p3 x2)
  rw [sld_back hd hh4 p3 x2] at a
  have b := sX_back hd hh4 p3 p1 p2 x2
  rw [← hm] at b
  rw [b] at a
  exact a
theorem slides_back (d : Pl.Dg) (hd : Pl.Valid d) (A B : Option Addr) (cp cq m h : Nat) (w : World) (hm : m = 4 * d.n) (hg : DgAt w A B (sldD d h)) (hh : h < m) (hp : slP d h) :
    Calls Try.prog 28 #[.agg #[.slice A d.n cp, .slice B m cq, .int .i64 d.lp]] w fun e w' => ∃ v, e = .returned v ∧ MovesAt w' v (slL (sldD d h) m) ∧ Below w.heap.size w w' :=
  Slides_any (sldD d h) (sld_valid hd (by omega) hp.2.2.1) A B cp cq m w hm hg
/-- The inverse slide is listed. -/
theorem back_in {d : Pl.Dg} (hd : Pl.Valid d) {m h : Nat} (hm : m = 4 * d.n) (hh : h < m) (hp : slP d h) : (⟨5, (sX d h m : Nat), 0, 0, false⟩ : Mv) ∈ slL (sldD d h) m := by
  have hw := (Pl.Valid.iff.1 hd).1
  have hh4 : h < 4 * d.n := by omega
  obtain ⟨p1, p2, p3⟩ := hp
  obtain ⟨x1, x2, v0, v1, v2⟩ := sX_v hw hh4 p3.1
  rw [← hm] at x1 x2 v0 v1 v2
  refine (slL_mem _ _ m).2 ⟨sX d h m, by omega, ⟨?_, ?_, isT_new hd hh4 p3 x2⟩, rfl⟩
  all_goals
    rcases th_new hw hh4 p3.1 x2 with ⟨t0, t1, t2⟩ | ⟨t0, t1, t2⟩ | ⟨t0, t1, t2⟩
  · rw [t1]; exact v1
  · rw [t1]; exact v2
  · rw [t1]; exact v0
  · rw [t2]; exact v2
  · rw [t2]; exact v0
  · rw [t2]; exact v1
def seen (L : List Mv) (x q : Nat) : Bool := (L.take q).any (fun z => z.x == (x : Int))
theorem seen_s {L : List Mv} {x q : Nat} {z : Mv} (h : L[q]? = some z) : seen L x (q + 1) = (seen L x q || z.x == (x : Int)) := by
  unfold seen
  obtain ⟨hq, e⟩ := List.getElem?_eq_some_iff.1 h
  rw [List.take_succ_eq_append_getElem hq, List.any_append, e]
  simp
theorem seen_all {L : List Mv} {x : Nat} (h : (⟨5, (x : Int), 0, 0, false⟩ : Mv) ∈ L) : seen L x L.length = true := by
  unfold seen
  rw [List.take_length, List.any_eq_true]
  exact ⟨_, h, by simp⟩
theorem mvs_get : ∀ (ms : List Mv) (j : Nat) (z : Mv), ms[j]? = some z → ∀ (i : Nat) (u : Value), z.cells[i]? = some u → (mvs ms)[j * 5 + i]? = some u
  | [], j, z, h, _, _, _ => by cases h
  | m :: ms, 0, z, h, i, u, hu => by
    obtain rfl : m = z := by simpa using h
    have hi : i < m.cells.length := (List.getElem?_eq_some_iff.1 hu).1
    show (m.cells ++ mvs ms)[0 * 5 + i]? = some u
    rw [Nat.zero_mul, Nat.zero_add, List.getElem?_append_left hi, hu]
  | m :: ms, j + 1, z, h, i, u, hu => by
    have ih := mvs_get ms j z (by simpa using h) i u hu
    show (m.cells ++ mvs ms)[(j + 1) * 5 + i]? = some u
    have e : m.cells.length = 5 := rfl
    rw [List.getElem?_append_right (by rw [e]; omega), e, ← ih]
    congr 1
    omega
theorem moves_val {w : World} {v : Value} {ms : List Mv} (h : MovesAt w v ms) : ∃ (A : Option Addr) (c : Nat), v = .slice A ms.length c ∧ (0 < ms.length → ∃ g, A = some ⟨g, 0, none⟩ ∧ g < w.heap.size ∧ ∀ (j : Nat) (z : Mv), ms[j]? = some z → ∀ (i : Nat) (u : Value), z.cells[i]? = some u → w.cell? ⟨g, j * 5 + i, none⟩ = some u) := by
  obtain ⟨base, h⟩ := h
  obtain ⟨A, c, rfl⟩ := owns_slice h
  refine ⟨A, c, rfl, fun hp => ?_⟩
  obtain ⟨g, cap, e, _, hg⟩ := World.ownsRow.form h hp
  injection e with e1 _ _
  subst e1
  refine ⟨g, rfl, hg, fun j z hz i u hu => ?_⟩
  have hj : j < ms.length := (List.getElem?_eq_some_iff.1 hz).1
  have hi : i < 5 := (List.getElem?_eq_some_iff.1 hu).1
  rw [World.ownsRow.cellAt h (j * 5 + i) (by omega)]
  exact mvs_get ms j z hz i u hu
set_option maxRecDepth 100000 in
set_option maxHeartbeats 8000000 in
theorem slides_valid (d : Pl.Dg) (hd : Pl.Valid d) (A B : Option Addr) (cp cq m k : Nat) (w : World) (hm : m = 4 * d.n) (hg : DgAt w A B d) (hk : k < 256) :
    Calls Try.prog 8 #[.agg #[.slice A d.n cp, .slice B m cq, .int .i64 d.lp], .int .u8 (k : Int)] w fun e w' => e = .returned (.bool true) ∧ Below w.heap.size w w' := by
  have hn := hd.wf.few
  have HM := hide hm
  have HG := hide hg
  have hm2 : m ≤ 256 := by omega
  clear hm hg
  have X0 := hide (row_at (W := w) (g := w.heap.size) (t := 24) (vs := [.slice A d.n cp, .slice B m cq, .int .i64 (d.lp : Int)]) rfl)
  have B0 := hide (show Below w.heap.size w (w.alloc (.cells #[.slice A d.n cp, .slice B m cq, .int .i64 (d.lp : Int)] 24)) from (Below.refl _ _).alloc (Nat.le_refl _) _)
  go_enter Try.func8, Try.ntmps8
  go_wp2_with fail
  refine (awake_true _).mono ?_
  rintro e w1 ⟨rfl, hb1⟩
  have Y0 := hide (X0.out.below hb1)
  have B1 := hide (B0.out.trans (hb1.mono B0.out.size))
  clear X0 B0 hb1
  obtain ⟨d0, d1, d2, d3⟩ := box3 Y0.out
  go_wp2_with fail
  refine (small_any A B d.n m cp cq (.int .i64 d.lp) w1).mono ?_
  rintro e w2 ⟨he, hb2⟩
  have Z0 := hide (Y0.out.below hb2)
  have B2 := hide (B1.out.trans (hb2.mono B1.out.size))
  clear Y0 B1 hb2 d0 d1 d2 d3
  obtain ⟨d0, d1, d2, d3⟩ := box3 Z0.out
  rcases he with rfl | rfl
  · go_wp2
    go_ret
    exact ⟨rfl, B2.out⟩
  · go_wp2_with fail
    refine (valid_yes d hd A B cp cq m _ HM.out (HG.out.keep B2.out)).mono ?_
    rintro e w3 ⟨rfl, hb3⟩
    have U0 := hide (Z0.out.below hb3)
    have B3 := hide (B2.out.trans (hb3.mono B2.out.size))
    clear Z0 B2 hb3 d0 d1 d2 d3
    obtain ⟨d0, d1, d2, d3⟩ := box3 U0.out
    go_wp2_with fail
    refine (Slides_any d hd A B cp cq m _ HM.out (HG.out.keep B3.out)).mono ?_
    rintro e w4 ⟨v, rfl, hv, hb4⟩
    have V0 := hide (U0.out.below hb4)
    have B4 := hide (B3.out.trans (hb4.mono B3.out.size))
    clear U0 B3 hb4 d0 d1 d2 d3
    obtain ⟨d0, d1, d2, d3⟩ := box3 V0.out
    obtain ⟨A5, c5, rfl, hcells⟩ := moves_val hv
    obtain ⟨N5, hN5⟩ : ∃ n, n = (slL d m).length := ⟨_, rfl⟩
    have hlen := slL_len d m
    rw [← hN5] at hcells hlen ⊢
    have HN5 := hide hN5
    have HC := hide hcells
    clear hN5 hcells hv
    by_cases h0 : N5 = 0
    · subst h0
      go_wp2
      go_ret
      exact ⟨rfl, B4.out⟩
    · obtain ⟨g, rfl, hgl, hcs⟩ := HC.out (by omega)
      have hr : k % N5 < N5 := Nat.mod_lt _ (by omega)
      obtain ⟨z, hz⟩ : ∃ z, (slL d m)[k % N5]? = some z := ⟨_, List.getElem?_eq_getElem (by rw [← HN5.out]; exact hr)⟩
      obtain ⟨h, hh, hp, rfl⟩ := (slL_mem d z m).1 (List.mem_of_getElem? hz)
      have c0 := hcs _ _ hz 0 _ rfl
      have c1 := hcs _ _ hz 1 _ rfl
      have c2 := hcs _ _ hz 2 _ rfl
      have c3 := hcs _ _ hz 3 _ rfl
      have c4 := hcs _ _ hz 4 _ rfl
      simp only [Nat.add_zero] at c0
      have HP := hide hp
      clear HC hcs hz hp
      obtain ⟨r, hr0⟩ : ∃ r, r = k % N5 := ⟨_, rfl⟩
      have hri : (k : Int).tmod (N5 : Int) = (r : Int) := by rw [hr0]; rfl
      rw [← hr0] at hr c0 c1 c2 c3 c4
      clear hr0
      have i0 : (0 : Int) ≤ (r : Int) := by omega
      have i1 : (r : Int) < (N5 : Int) := by omega
      have n0 : (N5 : Int) ≠ 0 := by omega
      have B5 := hide (B4.out.alloc B4.out.size (.cells #[.int .i64 5, .int .i64 (h : Int), .int .i64 0, .int .i64 0, .bool false] 28))
      have V5 := hide (V0.out.alloc (.cells #[.int .i64 5, .int .i64 (h : Int), .int .i64 0, .int .i64 0, .bool false] 28))
      have hw4 : w.heap.size < w4.heap.size := V0.out.lt
      go_wp2_with fail
      refine (apply_slide d hd A B cp cq m h _ HM.out (HG.out.keep B5.out) (by have := HM.out; omega) HP.out.2.2).mono ?_
      rintro e w5 ⟨A6, B6, c6, c7, rfl, hT6, hb5⟩
      have V6 := hide (V5.out.below hb5)
      have B6' := hide (B5.out.trans (hb5.mono B5.out.size))
      have T6 := hide hT6
      have hw5 : w.heap.size < w5.heap.size := V6.out.lt
      clear hb5 hT6 d0 d1 d2 d3 c0 c1 c2 c3 c4 V5 B5 V0 B4
      obtain ⟨x, hx⟩ : ∃ x, x = sX d h m := ⟨_, rfl⟩
      rw [← hx]
      have HX := hide hx
      clear hx
      obtain ⟨d0, d1, d2, d3⟩ := box3 V6.out
      have b7 := ((Below.refl w5.heap.size w5).alloc (Nat.le_refl _) (.cells #[.slice A6 d.n c6, .slice B6 m c7, .int .i64 (d.lp : Int)] 24)).alloc (by simp) (.cells #[.int .i64 5, .int .i64 (x : Int), .int .i64 0, .int .i64 0, .bool false] 28)
      have V7 := hide (V6.out.below b7)
      have B7 := hide (B6'.out.trans (b7.mono B6'.out.size))
      have T7 := hide (T6.out.keep b7)
      have D7 := hide ((row_at (W := w5) (g := w5.heap.size) (t := 24) (vs := [.slice A6 d.n c6, .slice B6 m c7, .int .i64 (d.lp : Int)]) rfl).alloc (.cells #[.int .i64 5, .int .i64 (x : Int), .int .i64 0, .int .i64 0, .bool false] 28))
      have M7 := hide (row_at (W := w5.alloc (.cells #[.slice A6 d.n c6, .slice B6 m c7, .int .i64 (d.lp : Int)] 24)) (g := w5.heap.size + 1) (t := 28) (vs := [.int .i64 5, .int .i64 (x : Int), .int .i64 0, .int .i64 0, .bool false]) (by simp))
      clear b7
      go_wp2_with fail
      refine (apply_back d hd A6 B6 c6 c7 m h x _ HM.out T7.out.at hh HP.out HX.out).mono ?_
      rintro e w8 ⟨A9, B9, c8, c9, rfl, hT8, hb8⟩
      have V8 := hide (V7.out.below hb8)
      have D8 := hide (D7.out.below hb8)
      have M8 := hide (M7.out.below hb8)
      have TE8 := hide (T7.out.keep hb8)
      have TD8 := hide hT8
      have B8 := hide (B7.out.trans (hb8.mono B7.out.size))
      have hw8 : w.heap.size < w8.heap.size := V8.out.lt
      have hw8a : w5.heap.size < w8.heap.size := D8.out.lt
      have hw8b : w5.heap.size + 1 < w8.heap.size := M8.out.lt
      clear hb8 hT8 V7 B7 T7 D7 M7 d0 d1 d2 d3 V6 B6' T6
      obtain ⟨d0, d1, d2, d3⟩ := box3 V8.out
      obtain ⟨e0, e1, e2, e3⟩ := box3 D8.out
      obtain ⟨f0, f1, f2, f3, f4, f5⟩ := box5 M8.out
      go_wp2_with fail
      have b9 := ((Below.refl w8.heap.size w8).alloc (Nat.le_refl _) (.cells #[.slice A9 d.n c8, .slice B9 m c9, .int .i64 (d.lp : Int)] 24)).alloc (by simp) (.cells #[.int .i64 5, .int .i64 (h : Int), .int .i64 0, .int .i64 0, .bool false] 28)
      have V9 := hide (V8.out.below b9)
      have B9' := hide (B8.out.trans (b9.mono B8.out.size))
      have D9 := hide (D8.out.below b9)
      have M9 := hide (M8.out.below b9)
      have TE9 := hide (TE8.out.keep b9)
      have TD9 := hide (TD8.out.keep b9)
      have D9b := hide ((row_at (W := w8) (g := w8.heap.size) (t := 24) (vs := [.slice A9 d.n c8, .slice B9 m c9, .int .i64 (d.lp : Int)]) rfl).alloc (.cells #[.int .i64 5, .int .i64 (h : Int), .int .i64 0, .int .i64 0, .bool false] 28))
      have M9b := hide (row_at (W := w8.alloc (.cells #[.slice A9 d.n c8, .slice B9 m c9, .int .i64 (d.lp : Int)] 24)) (g := w8.heap.size + 1) (t := 28) (vs := [.int .i64 5, .int .i64 (h : Int), .int .i64 0, .int .i64 0, .bool false]) (by simp))
      clear b9
      refine (slides_back d hd A6 B6 c6 c7 m h _ HM.out TE9.out.at hh HP.out).mono ?_
      rintro e w10 ⟨v, rfl, hv, hb10⟩
      obtain ⟨g2, hg2⟩ : ∃ g2, g2 = w8.heap.size := ⟨_, rfl⟩
      obtain ⟨g3, hg3⟩ : ∃ g3, g3 = w8.heap.size + 1 := ⟨_, rfl⟩
      have V10 := hide (V9.out.below hb10)
      have B10 := hide (B9'.out.trans (hb10.mono B9'.out.size))
      have D10 := hide (D9.out.below hb10)
      have M10 := hide (M9.out.below hb10)
      have TE10 := hide (TE9.out.keep hb10)
      have TD10 := hide (TD9.out.keep hb10)
      have DD10 := hide (D9b.out.below hb10)
      have MM10 := hide (M9b.out.below hb10)
      rw [← hg2] at DD10 ⊢
      rw [← hg3] at MM10
      rw [show g2 + 1 = g3 by omega]
      clear hb10 V9 B9' D9 M9 TE9 TD9 D9b M9b V8 B8 D8 M8 TE8 TD8 hg2 hg3 d0 d1 d2 d3 e0 e1 e2 e3 f0 f1 f2 f3 f4 f5 hw8 hw8a hw8b
      obtain ⟨g0, hg0⟩ : ∃ g0, g0 = w5.heap.size := ⟨_, rfl⟩
      obtain ⟨g1, hg1⟩ : ∃ g1, g1 = w5.heap.size + 1 := ⟨_, rfl⟩
      rw [← hg0] at D10 ⊢
      rw [← hg1] at M10
      rw [show g0 + 1 = g1 by omega]
      clear hg0 hg1
      obtain ⟨A7, c5', rfl, hcells⟩ := moves_val hv
      obtain ⟨N6, hN6⟩ : ∃ n, n = (slL (sldD d h) m).length := ⟨_, rfl⟩
      have hlen6 := slL_len (sldD d h) m
      rw [← hN6] at hcells hlen6 ⊢
      have HN6 := hide hN6
      have HC6 := hide hcells
      clear hN6 hcells hv hlen
      go_wp2
      go_loopg [13, 15, 82] N6 (fun g s13 s15 s82 wx => ∃ q : Nat, q + g = N6 ∧ s82 = .int .i64 (q : Int) ∧ s13 = .bool (seen (slL (sldD d h) m) x q) ∧ Below w10.heap.size w10 wx)
      case atStart => exact ⟨0, by omega, rfl, rfl, Below.refl _ _⟩
      case round =>
        obtain ⟨q, hkg, rfl, rfl, hb⟩ := hrel
        have HKG := hide hkg
        have V11 := hide (V10.out.below hb)
        have D11 := hide (D10.out.below hb)
        have M11 := hide (M10.out.below hb)
        have DD11 := hide (DD10.out.below hb)
        have MM11 := hide (MM10.out.below hb)
        have BB := hide hb
        have l0 : w.heap.size < wr.heap.size := V11.out.lt
        have l1 : g0 < wr.heap.size := D11.out.lt
        have l2 : g1 < wr.heap.size := M11.out.lt
        have l3 : g2 < wr.heap.size := DD11.out.lt
        have l4 : g3 < wr.heap.size := MM11.out.lt
        obtain ⟨f0, f1, f2, f3, f4, f5⟩ := box5 M11.out
        by_cases hq : q < N6
        · have hqi : (q : Int) < (N6 : Int) := by omega
          have q0 : (0 : Int) ≤ (q : Int) := by omega
          obtain ⟨g', rfl, hgl', hcs⟩ := HC6.out (by omega)
          obtain ⟨z, hz⟩ : ∃ z, (slL (sldD d h) m)[q]? = some z := ⟨_, List.getElem?_eq_getElem (by rw [← HN6.out]; exact hq)⟩
          obtain ⟨h', hh', _, rfl⟩ := (slL_mem (sldD d h) z m).1 (List.mem_of_getElem? hz)
          have cc : ∀ i u, (Mv.cells ⟨5, h', 0, 0, false⟩)[i]? = some u → wr.cell? ⟨g', q * 5 + i, none⟩ = some u := fun i u hu => (hb.cell (by exact hgl')).trans (hcs _ _ hz i u hu)
          have c0 := cc 0 _ rfl
          have c1 := cc 1 _ rfl
          have c2 := cc 2 _ rfl
          have c3 := cc 3 _ rfl
          have c4 := cc 4 _ rfl
          simp only [Nat.add_zero] at c0
          have SEEN := hide (seen_s (x := x) hz)
          have hg' : g' < wr.heap.size := by have := hb.size; omega
          clear cc hcs hz hkg hb
          obtain ⟨sn, hsn⟩ : ∃ sn, sn = seen (slL (sldD d h) m) x q := ⟨_, rfl⟩
          rw [← hsn] at SEEN ⊢
          clear hsn
          cases sn with
          | true =>
            go_wp2
            go_roundg (gk - 1)
            case measure => have := HKG.out; omega
            case rel => exact ⟨q + 1, by have := HKG.out; omega, by go_num, by rw [SEEN.out]; rfl, BB.out.alloc BB.out.size _⟩
          | false =>
            by_cases hxx : (h' : Int) = (x : Int)
            · have t1 : ((h' : Int) == (x : Int)) = true := by rw [beq_iff_eq]; exact hxx
              have SE2 := hide (show seen (slL (sldD d h) m) x (q + 1) = true by rw [SEEN.out]; show (false || ((h' : Int) == (x : Int))) = true; rw [t1]; rfl)
              clear hxx
              go_wp2
              go_roundg (gk - 1)
              case measure => have := HKG.out; omega
              case rel => exact ⟨q + 1, by have := HKG.out; omega, by go_num, by rw [SE2.out], BB.out.alloc BB.out.size _⟩
            · have t1 : ((h' : Int) == (x : Int)) = false := by rw [beq_eq_false_iff_ne]; exact hxx
              have SE2 := hide (show seen (slL (sldD d h) m) x (q + 1) = false by rw [SEEN.out]; show (false || ((h' : Int) == (x : Int))) = false; rw [t1]; rfl)
              clear hxx
              go_wp2
              go_roundg (gk - 1)
              case measure => have := HKG.out; omega
              case rel => exact ⟨q + 1, by have := HKG.out; omega, by go_num, by rw [SE2.out], BB.out.alloc BB.out.size _⟩
        · have hqi : ¬ ((q : Int) < (N6 : Int)) := by omega
          have e : q = N6 := by omega
          have SE := hide (show seen (slL (sldD d h) m) x q = true by
            rw [e, HN6.out]
            have := back_in hd HM.out hh HP.out
            rw [← HX.out] at this
            exact seen_all this)
          rw [SE.out]
          have TE11 := hide (TE10.out.keep hb)
          have TD11 := hide (TD10.out.keep hb)
          have B11 := hide (B10.out.trans (hb.mono B10.out.size))
          clear e hkg hb HC6 V10 D10 M10 DD10 MM10 TE10 TD10 B10 f0 f1 f2 f3 f4 f5
          obtain ⟨d0, d1, d2, d3⟩ := box3 DD11.out
          obtain ⟨f0, f1, f2, f3, f4, f5⟩ := box5 MM11.out
          go_wp2_with fail
          refine (apply_slide d hd A9 B9 c8 c9 m h _ HM.out TD11.out.at (by have := HM.out; omega) HP.out.2.2).mono ?_
          rintro e w12 ⟨A8, B8, c10, c11, rfl, hT12, hb12⟩
          have V12 := hide (V11.out.below hb12)
          have D12 := hide (D11.out.below hb12)
          have DD12 := hide (DD11.out.below hb12)
          have TE12 := hide (TE11.out.keep hb12)
          have TD12 := hide (TD11.out.keep hb12)
          have TT12 := hide hT12
          have B12 := hide (B11.out.trans (hb12.mono B11.out.size))
          have l0 : w.heap.size < w12.heap.size := V12.out.lt
          have l1 : g0 < w12.heap.size := D12.out.lt
          have l3 : g2 < w12.heap.size := DD12.out.lt
          clear hb12 hT12 V11 D11 DD11 TE11 TD11 B11 d0 d1 d2 d3 f0 f1 f2 f3 f4 f5 M11 MM11 BB
          obtain ⟨d0, d1, d2, d3⟩ := box3 V12.out
          obtain ⟨e0, e1, e2, e3⟩ := box3 D12.out
          obtain ⟨f0, f1, f2, f3⟩ := box3 DD12.out
          go_wp2_with fail
          have b13 := ((Below.refl w12.heap.size w12).alloc (Nat.le_refl _) (.cells #[.slice A8 d.n c10, .slice B8 m c11, .int .i64 (d.lp : Int)] 24)).alloc (by simp) (.cells #[.int .i64 5, .int .i64 (sX d h m : Nat), .int .i64 0, .int .i64 0, .bool false] 28)
          have B13 := hide (B12.out.trans (b13.mono B12.out.size))
          have D13 := hide (D12.out.below b13)
          have TE13 := hide (TE12.out.keep b13)
          have TD13 := hide (TD12.out.keep b13)
          have TT13 := hide (TT12.out.keep b13)
          have G13 := hide (HG.out.keep B13.out)
          have D13b := hide ((row_at (W := w12) (g := w12.heap.size) (t := 24) (vs := [.slice A8 d.n c10, .slice B8 m c11, .int .i64 (d.lp : Int)]) rfl).alloc (.cells #[.int .i64 5, .int .i64 (sX d h m : Nat), .int .i64 0, .int .i64 0, .bool false] 28))
          clear b13
          have tm1 := TD13.out.at.m
          have tm2 := G13.out.m
          rw [← HM.out] at tm1 tm2
          have TM1 := hide tm1
          have TM2 := hide tm2
          clear tm1 tm2
          refine (same_yes d.sg (nats d.mt) d.lp A9 B9 A B d.n m c8 c9 cp cq _ TD13.out.at.s TM1.out G13.out.s TM2.out (by omega) (by omega)).mono ?_
          rintro e w14 ⟨rfl, hb14⟩
          have D14 := hide (D13.out.below hb14)
          have D14b := hide (D13b.out.below hb14)
          have TE14 := hide (TE13.out.keep hb14)
          have TT14 := hide (TT13.out.keep hb14)
          have B14 := hide (B13.out.trans (hb14.mono B13.out.size))
          clear hb14 D13 D13b TE13 TT13 B13 d0 d1 d2 d3 e0 e1 e2 e3 f0 f1 f2 f3
          obtain ⟨e0, e1, e2, e3⟩ := box3 D14.out
          obtain ⟨f0, f1, f2, f3⟩ := box3 D14b.out
          go_wp2_with fail
          have tm3 := TT14.out.at.m
          have tm4 := TE14.out.at.m
          rw [sld_n, ← HM.out] at tm3 tm4
          have TM3 := hide tm3
          have TM4 := hide tm4
          clear tm3 tm4
          refine (same_yes d.sg (nats (sldD d h).mt) d.lp A8 B8 A6 B6 d.n m c10 c11 c6 c7 _ TT14.out.at.s TM3.out TE14.out.at.s TM4.out (by omega) (by omega)).mono ?_
          rintro e w15 ⟨rfl, hb15⟩
          have B15 := hide (B14.out.trans (hb15.mono B14.out.size))
          clear hb15
          go_wp2
          go_ret
          exact ⟨rfl, B15.out⟩
set_option maxRecDepth 100000 in
set_option maxHeartbeats 4000000 in
theorem slides_bad (sg mt : List Int) (lp : Int) (A B : Option Addr) (n q cp cq k : Nat) (w : World) (hs : IntsAt w A n sg) (hm : IntsAt w B q mt) (hn : n ≤ maxLen) (hq : q ≤ maxLen) (hlp : -9223372036854775808 ≤ lp ∧ lp ≤ 9223372036854775807) (hv : ¬ Pl.VL sg mt lp) :
    Calls Try.prog 8 #[.agg #[.slice A n cp, .slice B q cq, .int .i64 lp], .int .u8 (k : Int)] w fun e w' => e = .returned (.bool true) ∧ Below w.heap.size w w' := by
  have HS := hide hs
  have HM := hide hm
  clear hs hm
  have X0 := hide (row_at (W := w) (g := w.heap.size) (t := 24) (vs := [.slice A n cp, .slice B q cq, .int .i64 lp]) rfl)
  have B0 := hide (show Below w.heap.size w (w.alloc (.cells #[.slice A n cp, .slice B q cq, .int .i64 lp] 24)) from (Below.refl _ _).alloc (Nat.le_refl _) _)
  go_enter Try.func8, Try.ntmps8
  go_wp2_with fail
  refine (awake_true _).mono ?_
  rintro e w1 ⟨rfl, hb1⟩
  have Y0 := hide (X0.out.below hb1)
  have B1 := hide (B0.out.trans (hb1.mono B0.out.size))
  clear X0 B0 hb1
  obtain ⟨d0, d1, d2, d3⟩ := box3 Y0.out
  go_wp2_with fail
  refine (small_any A B n q cp cq (.int .i64 lp) w1).mono ?_
  rintro e w2 ⟨he, hb2⟩
  have Z0 := hide (Y0.out.below hb2)
  have B2 := hide (B1.out.trans (hb2.mono B1.out.size))
  clear Y0 B1 hb2 d0 d1 d2 d3
  obtain ⟨d0, d1, d2, d3⟩ := box3 Z0.out
  rcases he with rfl | rfl
  · go_wp2
    go_ret
    exact ⟨rfl, B2.out⟩
  · go_wp2_with fail
    refine (valid_any sg mt lp A B n q cp cq _ (HS.out.keep B2.out) (HM.out.keep B2.out) hn hq hlp).mono ?_
    rintro e w3 ⟨rfl, hb3⟩
    rw [Pl.vb_false hv]
    have B3 := hide (B2.out.trans (hb3.mono B2.out.size))
    clear hb3
    go_wp2
    go_ret
    exact ⟨rfl, B3.out⟩
theorem slides_walk (sg mt : List Int) (lp : Int) (A B : Option Addr) (n q cp cq k : Nat) (w : World) (hs : IntsAt w A n sg) (hm : IntsAt w B q mt) (hn : n ≤ maxLen) (hq : q ≤ maxLen) (hlp : -9223372036854775808 ≤ lp ∧ lp ≤ 9223372036854775807) (hk : k < 256) :
    Calls Try.prog 8 #[.agg #[.slice A n cp, .slice B q cq, .int .i64 lp], .int .u8 (k : Int)] w fun e w' => e = .returned (.bool true) ∧ Below w.heap.size w w' := by
  by_cases hv : Pl.VL sg mt lp
  · have hl := hs.len
    have hl2 := hm.len
    have hl3 := hv.len
    have en : (Pl.mk sg mt lp).n = n := hl
    have em : nats (Pl.mk sg mt lp).mt = mt := Pl.nats_mk hv.2.1
    have el : ((Pl.mk sg mt lp).lp : Int) = lp := by show ((lp.toNat : Nat) : Int) = lp; have := hv.2.2; omega
    have h := slides_valid (Pl.mk sg mt lp) hv.1 A B cp cq q k w (by rw [en]; omega) ⟨by rw [en]; exact hs, by rw [en, em, show 4 * n = q by omega]; exact hm⟩ hk
    rw [en, el] at h
    exact h
  · exact slides_bad sg mt lp A B n q cp cq k w hs hm hn hq hlp hv
end Go.Proofs.Ytobbepmlmbbamaa
