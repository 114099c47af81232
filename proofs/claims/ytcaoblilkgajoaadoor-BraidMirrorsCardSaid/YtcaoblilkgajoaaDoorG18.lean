/-
 The texts Bzo in one.
-/
import Derived.Test.YtcaoblilkgajoaaDoorG17
import Derived.Test.YtcaoblilkgajoaaDoorG16
set_option linter.unusedVariables false
set_option linter.unusedSimpArgs false
section
namespace Go.Proofs.YtcaoblilkgajoaaDoor
open Go Go.RowKit
attribute [local go_sem ↓] Go.wp_at_zero Go.wp_at_succ
/-- A braid's box whose word is being written: what lay before is kept. -/
structure AB (Wb : World) (q : Int) (v : Value) (k : Nat) (ys : List Int) (W : World) : Prop where
 r : Row W Wb.heap.size 24 [.int .i64 q, v]
 o : W.ownsRow (Wb.heap.size + 1) 3 1 v k (ys.map (.int .i64))
 bel : Below Wb.heap.size Wb W
theorem AB.start (Wb : World) (q : Int) : AB Wb q (.slice none 0 0) 0 [] (Wb.alloc (.cells #[.int .i64 q, .slice none 0 0] 24)) :=
 ⟨row_at (vs := [.int .i64 q, .slice none 0 0]) rfl, World.ownsRow_nil _ _ _ _, (Below.refl _ _).alloc (Nat.le_refl _) _⟩
theorem AB.far {Wb W : World} {q : Int} {v : Value} {k : Nat} {ys : List Int} (h : AB Wb q v k ys W) : ∀ g, v.ownBlock = some g → Wb.heap.size + 1 ≤ g := fun g e => by
 rcases h.o.2 with ⟨h1, _⟩ | ⟨g', cap, cur, h1, h2, _⟩
 ·rw [h1] at e; simp [Value.ownBlock] at e
 ·rw [h1] at e
  simp [Value.ownBlock] at e
  omega
theorem AB.box {Wb W W3 : World} {q : Int} {v : Value} {k : Nat} {ys : List Int} {o1 : Obj} (h : AB Wb q v k ys W) (hg : (W.alloc o1).grownBy W3 v.ownBlock) : Row W3 Wb.heap.size 24 [.int .i64 q, v] :=
 (h.r.alloc o1).grown hg (fun e => by have := h.far _ e.symm; omega)
theorem AB.app {Wb W W3 : World} {q y : Int} {v v' : Value} {k : Nat} {ys : List Int} {o1 : Obj} (h : AB Wb q v k ys W) (h3 : W3.ownsRow (Wb.heap.size + 1) 3 1 v' (k + 1) (ys.map (.int .i64) ++ [.int .i64 y])) (hg : (W.alloc o1).grownBy W3 v.ownBlock) :
 AB Wb q v' (k + 1) (ys ++ [y]) (W3.setCell ⟨Wb.heap.size, 1, none⟩ v') := by
 have hz : Wb.heap.size < W.heap.size := h.r.lt
 have hl := h.far
 refine ⟨?_, ?_, ?_⟩
 ·exact (h.box hg).set 1 v'
 ·rw [List.map_append]
  exact ownsRow_setCell_below h3 (by show Wb.heap.size < _; omega) _
 ·exact (((h.bel.alloc (by omega) o1).grown hg (by simp; omega) (fun j hj => by have := hl j hj; omega))).setCell (Nat.le_refl _) _
theorem take_map1 {ws : List Int} {k : Nat} (hk : k < ws.length) (f : Int → Int) : (ws.take k).map f ++ [f (ws.getD k 0)] = (ws.take (k + 1)).map f := by
 rw [Pl.take_one (x := ws.getD k 0) (by rw [List.getD_eq_getElem?_getD, List.getElem?_eq_getElem hk]; rfl), List.map_append]
 rfl
set_option maxRecDepth 100000 in
set_option maxHeartbeats 8000000 in
theorem braidMirrors_walk (s : Int) (ws : List Int) (A : Option Addr) (n c : Nat) (w : World) (hw : IntsAt w A n ws) (hn : n ≤ maxLen) (hg : GV w) (hw0 : 0 < w.heap.size) :
 Calls Tryd.prog 6 #[.agg #[.int .i64 s, .slice A n c]] w fun e w' => e = .returned (.bool true) ∧ Below w.heap.size w w' := by
 have HG := hide hg
 have HN := hide hn
 have HL := hide hw.len
 unfold maxLen at hn
 have L0 := hide (show LB w [(w.heap.size, [.int .i64 s, .slice A n c])] [(A, n, ws)] (w.alloc (.cells #[.int .i64 s, .slice A n c] 24)) from
  LB.newR (L := []) ⟨fun p hp => by simp at hp, fun q hq => by
   simp only [List.mem_cons, List.not_mem_nil, or_false] at hq
   subst hq
   exact hw, Below.refl _ _⟩ _ _)
 have S0 := hide (show 0 < (w.alloc (.cells #[.int .i64 s, .slice A n c] 24)).heap.size by simp)
 clear hg hw
 go_enter Tryd.func6, Tryd.ntmps6
 go_wp2_with fail
 refine (awake33 _ (HG.out.below L0.out.bel) S0.out).mono ?_
 rintro e w1 ⟨rfl, hb1⟩
 have L1 := hide (L0.out.below hb1)
 clear hb1 L0 S0
 obtain ⟨d0, d1, d2⟩ := L1.out.row (.head _)
 by_cases h20 : 20 < n
 ·have hi : (20 : Int) < (n : Int) := by omega
  go_wp2
  go_ret
  exact ⟨rfl, L1.out.bel⟩
 ·have hi : ¬ ((20 : Int) < (n : Int)) := by omega
  go_wp2_with fail
  refine (bvalid_any s ws A n c _ (L1.out.int (.head _)) HN.out).mono ?_
  rintro e w2 ⟨rfl, hb2⟩
  have L2 := hide (L1.out.below hb2)
  clear hb2 L1 d0 d1 d2
  obtain ⟨d0, d1, d2⟩ := L2.out.row (.head _)
  by_cases hv : Pl.BV s ws
  ·rw [Pl.vb_true hv]
   obtain ⟨q, rfl⟩ : ∃ q : Nat, s = (q : Int) := ⟨s.toNat, by have := hv.1; omega⟩
   have HV := hide hv
   have hn20 : n ≤ 20 := by omega
   have HBD := hide (show ∀ x, x ∈ ws → -10 ≤ x ∧ x ≤ 10 from fun x hx => by have h1 := hv.2.2.2 x hx; have h2 := hv.2.1; omega)
   have hq10 : q ≤ 10 := by have := hv.2.1; omega
   obtain ⟨i0, hi0, hz0, hz1, hz2⟩ := info_parts intInfo
   clear hv h20 hi
   go_upto_region 6 with fail
   obtain ⟨w3, hw3⟩ : ∃ W, W = w2.alloc (.cells #[.int .i64 (q : Int), .slice none 0 0] 24) := ⟨_, rfl⟩
   have A3 := hide (show AB w2 (q : Int) (.slice none 0 0) 0 [] w3 by rw [hw3]; exact AB.start _ _)
   rw [← hw3]
   clear hw3 d0 d1 d2
   obtain ⟨d0, d1, d2⟩ := (L2.out.below A3.out.bel).row (.head _)
   go_wp2_with fail
   go_loopg [5, 36] n (fun g _ ix wx => ∃ k v, k + g = n ∧ ix = .int .i64 (k : Int) ∧ AB w2 (q : Int) v k ((ws.take k).map (fun x => -x)) wx)
   case atStart => exact ⟨0, _, by omega, rfl, A3.out⟩
   case round =>
    clear d0 d1 d2 A3
    obtain ⟨k, v, hkg, rfl, hA⟩ := hrel
    have HKG := hide hkg
    have A4 := hide hA
    have hkn : k ≤ n := by omega
    clear hkg hA
    by_cases hk : k < n
    ·have hki : (k : Int) < (n : Int) := by omega
     have k0 : (0 : Int) ≤ (k : Int) := by omega
     obtain ⟨b, o, rfl, x1⟩ := ((L2.out.int (.head _)).keep A4.out.bel).at_ hk
     obtain ⟨x, hxm, hx, hxt⟩ := letter_at HL.out hk
     rw [hx] at x1
     have HXT := hide (show (ws.take k).map (fun x => -x) ++ [-x] = (ws.take (k + 1)).map (fun x => -x) by rw [← hx]; exact take_map1 (by rw [HL.out]; exact hk) _)
     have hxb := HBD.out x hxm
     obtain ⟨hxb1, hxb2⟩ := hxb
     clear hx hxt hxm
     have OA := hide (own_below A4.out.o ((Below.refl wr.heap.size wr).alloc (Nat.le_refl _) (.cells #[.int .i64 (-x)] 3)))
     have hbig : w2.heap.size + 1 ≤ wr.heap.size := A4.out.r.lt
     obtain ⟨r0, r1, r2⟩ := box2b A4.out.r
     go_wp2_with (at_builtin; refine wpList_append_lies _ (by rfl) _ _ 22 (by rfl) (w2.heap.size + 1) 3 i0 (.int .i64 0) 1 8 Tryd.underlying22 hi0 hz0 hz1 hz2 rfl (by omega) _ k _ (by rfl) OA.out ⟨wr.heap.size, 0, none⟩ 1 1 [.int .i64 (-x)] (by rfl) (by rfl) (one_news _ _) (by simp [Value.oneCell']) (by omega) (by unfold maxLen; omega) (by omega) (by simp; omega) (wr.heap.size + 1) (by simp) ?_; intro g3 c3 w3 own3 grow3 at3 lt3; have OWN3 := hide own3; have GR3 := hide grow3; obtain ⟨y0, y1, y2⟩ := box2b (AB.box A4.out grow3); clear own3 grow3 at3)
     go_roundg (gk - 1)
     case measure => have := HKG.out; omega
     case rel => exact ⟨k + 1, _, by have := HKG.out; omega, by go_num, by rw [← HXT.out]; exact AB.app A4.out OWN3.out GR3.out⟩
    ·have hki : ¬ ((k : Int) < (n : Int)) := by omega
     have HT := hide (show ws.take k = ws from List.take_of_length_le (by have := HL.out; omega))
     rw [HT.out] at A4
     have hkn2 : k = n := by omega
     rw [hkn2] at A4
     clear hkn2
     obtain ⟨A5, c5, rfl⟩ := owns_slice A4.out.o
     have L4 := hide (((L2.out.below A4.out.bel).addI (own_rowT A4.out.o).row).put A4.out.r)
     have HVN := hide HV.out.neg
     have HMI := hide (Pl.mirror_clD (n := q) (ws := ws) (by have := HV.out.wok; rwa [Int.toNat_natCast] at this))
     have HV1 := hide (clD_val HV.out (by rw [HL.out]; omega))
     have HV2 := hide (clD_val HVN.out (by have h := HL.out; unfold Pl.ngW; rw [List.length_map]; omega))
     clear A4 HT hk hkn HKG L2
     obtain ⟨d0, d1, d2⟩ := L4.out.row (.tail _ (.head _))
     obtain ⟨e0, e1, e2⟩ := L4.out.row (.head _)
     go_wp2_with fail
     refine (closure_w HV.out A n c _ (L4.out.int (.tail _ (.head _))) (by omega)).mono ?_
     rintro e w4 ⟨S, B, c4, lp, m, rfl, h1, h2, h3, hD, hb⟩
     have L5 := hide ((L4.out.below hb).alloc (.cells #[.slice S n c4, .slice B m m, .int .i64 (lp : Int)] 28))
     have Y5 := hide (row_at (W := w4) (g := w4.heap.size) (t := 28) (vs := [.slice S n c4, .slice B m m, .int .i64 (lp : Int)]) rfl)
     have D5 := hide (hD.keep ((Below.refl _ _).alloc (Nat.le_refl _) (.cells #[.slice S n c4, .slice B m m, .int .i64 (lp : Int)] 28)))
     have H1 := hide h1
     have H2 := hide h2
     have H3 := hide h3
     clear hki hb hD h1 h2 h3 L4 d0 d1 d2 e0 e1 e2
     obtain ⟨e0, e1, e2⟩ := L5.out.row (.head _)
     go_wp2_with fail
     refine (closure_w HVN.out A5 n c5 _ (L5.out.int (.head _)) (by omega)).mono ?_
     rintro e w6 ⟨S', B', c6, lp', m', rfl, h1, h2, h3, hD, hb⟩
     have L6 := hide ((L5.out.below hb).alloc (.cells #[.slice S' n c6, .slice B' m' m', .int .i64 (lp' : Int)] 28))
     have Y6 := hide ((Y5.out.below hb).alloc (.cells #[.slice S' n c6, .slice B' m' m', .int .i64 (lp' : Int)] 28))
     have D6 := hide ((D5.out.keep hb).keep ((Below.refl _ _).alloc (Nat.le_refl _) (.cells #[.slice S' n c6, .slice B' m' m', .int .i64 (lp' : Int)] 28)))
     have Z6 := hide (row_at (W := w6) (g := w6.heap.size) (t := 28) (vs := [.slice S' n c6, .slice B' m' m', .int .i64 (lp' : Int)]) rfl)
     have E6 := hide (hD.keep ((Below.refl _ _).alloc (Nat.le_refl _) (.cells #[.slice S' n c6, .slice B' m' m', .int .i64 (lp' : Int)] 28)))
     have H4 := hide h1
     have H5 := hide h2
     have H6 := hide h3
     clear hb hD h1 h2 h3 L5 Y5 D5 e0 e1 e2
     obtain ⟨y0, y1, y2, y3⟩ := box3 Y6.out
     go_wp2_with fail
     refine (mirror_w (Pl.clD q ws) HV1.out S B n c4 m m lp _ H1.out H2.out H3.out D6.out).mono ?_
     rintro e w7 ⟨S2, M2, rfl, hD, hb⟩
     rw [HMI.out] at hD
     have L7 := hide ((L6.out.below hb).alloc (.cells #[.slice S2 n n, .slice M2 m m, .int .i64 (lp : Int)] 28))
     have Y7 := hide ((Y6.out.below hb).alloc (.cells #[.slice S2 n n, .slice M2 m m, .int .i64 (lp : Int)] 28))
     have D7 := hide ((D6.out.keep hb).keep ((Below.refl _ _).alloc (Nat.le_refl _) (.cells #[.slice S2 n n, .slice M2 m m, .int .i64 (lp : Int)] 28)))
     have Z7 := hide ((Z6.out.below hb).alloc (.cells #[.slice S2 n n, .slice M2 m m, .int .i64 (lp : Int)] 28))
     have E7 := hide ((E6.out.keep hb).keep ((Below.refl _ _).alloc (Nat.le_refl _) (.cells #[.slice S2 n n, .slice M2 m m, .int .i64 (lp : Int)] 28)))
     have X7 := hide (row_at (W := w7) (g := w7.heap.size) (t := 28) (vs := [.slice S2 n n, .slice M2 m m, .int .i64 (lp : Int)]) rfl)
     have F7 := hide (hD.keep ((Below.refl _ _).alloc (Nat.le_refl _) (.cells #[.slice S2 n n, .slice M2 m m, .int .i64 (lp : Int)] 28)))
     clear hb hD L6 Y6 D6 Z6 E6 y0 y1 y2 y3
     obtain ⟨z0, z1, z2, z3⟩ := box3 Z7.out
     obtain ⟨x0, x1, x2, x3⟩ := box3 X7.out
     have HLP := hide (show lp = (Pl.clD q (Pl.ngW ws)).lp by rw [H2.out, ← HMI.out]; rfl)
     have HMM := hide (show m = 4 * (Pl.clD q (Pl.ngW ws)).n by rw [← H4.out, H3.out, ← H1.out])
     go_wp2_with fail
     refine (same_w _ _ HV2.out HV2.out (by rw [← H4.out]; exact hn20) (by rw [← H4.out]; exact hn20) ⟨_, Pl.Iso.refl _⟩ S' B' S2 M2 n n lp' lp c6 m' m' n m m _ H4.out H4.out H5.out HLP.out H6.out E7.out HMM.out F7.out).mono ?_
     rintro e w8 ⟨rfl, hb⟩
     have L8 := hide (L7.out.below hb)
     have Y8 := hide (Y7.out.below hb)
     have D8 := hide (D7.out.keep hb)
     clear hb L7 Y7 D7 Z7 E7 X7 F7 z0 z1 z2 z3 x0 x1 x2 x3 HLP HMM H4 H5 H6 HV2 HVN HMI
     obtain ⟨d0, d1, d2⟩ := L8.out.row (.tail _ (.head _))
     go_upto_region 17 with fail
     obtain ⟨w9, hw9⟩ : ∃ W, W = w8.alloc (.cells #[.int .i64 (q : Int), .slice none 0 0] 24) := ⟨_, rfl⟩
     have A9 := hide (show AB w8 (q : Int) (.slice none 0 0) 0 [] w9 by rw [hw9]; exact AB.start _ _)
     rw [← hw9]
     clear hw9 d0 d1 d2
     obtain ⟨d0, d1, d2⟩ := (L8.out.below A9.out.bel).row (.tail _ (.head _))
     go_wp2_with fail
     go_loopg [14, 85] n (fun g _ ix wx => ∃ k v, k + g = n ∧ ix = .int .i64 (k : Int) ∧ AB w8 (q : Int) v k ((ws.take k).map (Pl.fl1 (q : Int))) wx)
     case atStart => exact ⟨0, _, by omega, rfl, A9.out⟩
     case round =>
      clear d0 d1 d2 A9
      obtain ⟨k, v, hkg, rfl, hA⟩ := hrel
      have HKG := hide hkg
      have A4 := hide hA
      have hkn : k ≤ n := by omega
      clear hkg hA
      obtain ⟨d0, d1, d2⟩ := (L8.out.below A4.out.bel).row (.tail _ (.head _))
      by_cases hk : k < n
      ·have hki : (k : Int) < (n : Int) := by omega
       have k0 : (0 : Int) ≤ (k : Int) := by omega
       obtain ⟨b, o, rfl, x1⟩ := ((L8.out.int (.tail _ (.head _))).keep A4.out.bel).at_ hk
       obtain ⟨x, hxm, hx, hxt⟩ := letter_at HL.out hk
       rw [hx] at x1
       have HXT := hide (show (ws.take k).map (Pl.fl1 (q : Int)) ++ [Pl.fl1 (q : Int) x] = (ws.take (k + 1)).map (Pl.fl1 (q : Int)) by rw [← hx]; exact take_map1 (by rw [HL.out]; exact hk) _)
       have hxb := HBD.out x hxm
       obtain ⟨hxb1, hxb2⟩ := hxb
       clear hx hxt hxm
       have hbig : w8.heap.size + 1 ≤ wr.heap.size := A4.out.r.lt
       obtain ⟨r0, r1, r2⟩ := box2b A4.out.r
       by_cases hx0 : 0 < x
       ·have HFL := hide (show Pl.fl1 (q : Int) x = x - (q : Int) from if_pos hx0)
        have OA := hide (own_below A4.out.o ((Below.refl wr.heap.size wr).alloc (Nat.le_refl _) (.cells #[.int .i64 (x - (q : Int))] 3)))
        go_wp2_with (at_builtin; refine wpList_append_lies _ (by rfl) _ _ 22 (by rfl) (w8.heap.size + 1) 3 i0 (.int .i64 0) 1 8 Tryd.underlying22 hi0 hz0 hz1 hz2 rfl (by omega) _ k _ (by rfl) OA.out ⟨wr.heap.size, 0, none⟩ 1 1 [.int .i64 (x - (q : Int))] (by rfl) (by rfl) (one_news _ _) (by simp [Value.oneCell']) (by omega) (by unfold maxLen; omega) (by omega) (by simp; omega) (wr.heap.size + 1) (by simp) ?_; intro g3 c3 w3 own3 grow3 at3 lt3; have OWN3 := hide own3; have GR3 := hide grow3; obtain ⟨y0, y1, y2⟩ := box2b (AB.box A4.out grow3); clear own3 grow3 at3)
        go_roundg (gk - 1)
        case measure => have := HKG.out; omega
        case rel => exact ⟨k + 1, _, by have := HKG.out; omega, by go_num, by rw [← HXT.out, HFL.out]; exact AB.app A4.out OWN3.out GR3.out⟩
       ·have HFL := hide (show Pl.fl1 (q : Int) x = x + (q : Int) from if_neg hx0)
        have OA := hide (own_below A4.out.o ((Below.refl wr.heap.size wr).alloc (Nat.le_refl _) (.cells #[.int .i64 (x + (q : Int))] 3)))
        go_wp2_with (at_builtin; refine wpList_append_lies _ (by rfl) _ _ 22 (by rfl) (w8.heap.size + 1) 3 i0 (.int .i64 0) 1 8 Tryd.underlying22 hi0 hz0 hz1 hz2 rfl (by omega) _ k _ (by rfl) OA.out ⟨wr.heap.size, 0, none⟩ 1 1 [.int .i64 (x + (q : Int))] (by rfl) (by rfl) (one_news _ _) (by simp [Value.oneCell']) (by omega) (by unfold maxLen; omega) (by omega) (by simp; omega) (wr.heap.size + 1) (by simp) ?_; intro g3 c3 w3 own3 grow3 at3 lt3; have OWN3 := hide own3; have GR3 := hide grow3; obtain ⟨y0, y1, y2⟩ := box2b (AB.box A4.out grow3); clear own3 grow3 at3)
        go_roundg (gk - 1)
        case measure => have := HKG.out; omega
        case rel => exact ⟨k + 1, _, by have := HKG.out; omega, by go_num, by rw [← HXT.out, HFL.out]; exact AB.app A4.out OWN3.out GR3.out⟩
      ·have hki : ¬ ((k : Int) < (n : Int)) := by omega
       have HT := hide (show ws.take k = ws from List.take_of_length_le (by have := HL.out; omega))
       rw [HT.out] at A4
       have hkn2 : k = n := by omega
       rw [hkn2] at A4
       clear hkn2
       obtain ⟨A6, c6, rfl⟩ := owns_slice A4.out.o
       have L9 := hide (((L8.out.below A4.out.bel).addI (own_rowT A4.out.o).row).put A4.out.r)
       have Y9 := hide (Y8.out.below A4.out.bel)
       have D9 := hide (D8.out.keep A4.out.bel)
       have HVN := hide HV.out.flip
       have HMI := hide (Pl.reflect_clD (n := q) (ws := ws) (by have := HV.out.wok; rwa [Int.toNat_natCast] at this))
       have HV2 := hide (clD_val HVN.out (by have h := HL.out; unfold Pl.flW; rw [List.length_map]; omega))
       clear A4 HT hk hkn HKG L8 Y8 D8 d0 d1 d2
       obtain ⟨e0, e1, e2⟩ := L9.out.row (.head _)
       go_wp2_with fail
       refine (closure_w HVN.out A6 n c6 _ (L9.out.int (.head _)) (by omega)).mono ?_
       rintro e w10 ⟨S', B', c7, lp', m', rfl, h1, h2, h3, hD, hb⟩
       have L6 := hide ((L9.out.below hb).alloc (.cells #[.slice S' n c7, .slice B' m' m', .int .i64 (lp' : Int)] 28))
       have Y6 := hide ((Y9.out.below hb).alloc (.cells #[.slice S' n c7, .slice B' m' m', .int .i64 (lp' : Int)] 28))
       have D6 := hide ((D9.out.keep hb).keep ((Below.refl _ _).alloc (Nat.le_refl _) (.cells #[.slice S' n c7, .slice B' m' m', .int .i64 (lp' : Int)] 28)))
       have Z6 := hide (row_at (W := w10) (g := w10.heap.size) (t := 28) (vs := [.slice S' n c7, .slice B' m' m', .int .i64 (lp' : Int)]) rfl)
       have E6 := hide (hD.keep ((Below.refl _ _).alloc (Nat.le_refl _) (.cells #[.slice S' n c7, .slice B' m' m', .int .i64 (lp' : Int)] 28)))
       have H4 := hide h1
       have H5 := hide h2
       have H6 := hide h3
       clear hki hb hD h1 h2 h3 L9 Y9 D9 e0 e1 e2
       obtain ⟨y0, y1, y2, y3⟩ := box3 Y6.out
       go_wp2_with fail
       refine (reflect_w (Pl.clD q ws) HV1.out S B n c4 m m lp _ H1.out H2.out H3.out D6.out).mono ?_
       rintro e w11 ⟨S2, M2, rfl, hD, hb⟩
       rw [HMI.out] at hD
       have L7 := hide ((L6.out.below hb).alloc (.cells #[.slice S2 n n, .slice M2 m m, .int .i64 (lp : Int)] 28))
       have Z7 := hide ((Z6.out.below hb).alloc (.cells #[.slice S2 n n, .slice M2 m m, .int .i64 (lp : Int)] 28))
       have E7 := hide ((E6.out.keep hb).keep ((Below.refl _ _).alloc (Nat.le_refl _) (.cells #[.slice S2 n n, .slice M2 m m, .int .i64 (lp : Int)] 28)))
       have X7 := hide (row_at (W := w11) (g := w11.heap.size) (t := 28) (vs := [.slice S2 n n, .slice M2 m m, .int .i64 (lp : Int)]) rfl)
       have F7 := hide (hD.keep ((Below.refl _ _).alloc (Nat.le_refl _) (.cells #[.slice S2 n n, .slice M2 m m, .int .i64 (lp : Int)] 28)))
       clear hb hD L6 Y6 D6 Z6 E6 y0 y1 y2 y3
       obtain ⟨z0, z1, z2, z3⟩ := box3 Z7.out
       obtain ⟨x0, x1, x2, x3⟩ := box3 X7.out
       have HLP := hide (show lp = (Pl.clD q (Pl.flW q ws)).lp by rw [H2.out, ← HMI.out]; rfl)
       have HMM := hide (show m = 4 * (Pl.clD q (Pl.flW q ws)).n by rw [← H4.out, H3.out, ← H1.out])
       go_wp2_with fail
       refine (same_w _ _ HV2.out HV2.out (by rw [← H4.out]; exact hn20) (by rw [← H4.out]; exact hn20) ⟨_, Pl.Iso.refl _⟩ S' B' S2 M2 n n lp' lp c7 m' m' n m m _ H4.out H4.out H5.out HLP.out H6.out E7.out HMM.out F7.out).mono ?_
       rintro e w12 ⟨rfl, hb⟩
       go_wp2
       go_ret
       exact ⟨rfl, L7.out.bel.trans (hb.mono L7.out.bel.size)⟩
  ·rw [Pl.vb_false hv]
   go_wp2
   go_ret
   exact ⟨rfl, L2.out.bel⟩
end Go.Proofs.YtcaoblilkgajoaaDoor
end
