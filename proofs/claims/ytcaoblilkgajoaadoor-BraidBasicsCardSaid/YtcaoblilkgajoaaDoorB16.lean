/-
  The texts Bzd in one.
-/
import Derived.Test.YtcaoblilkgajoaaDoorB15
import Derived.Deep.RegionHeld3
import Derived.Deep.DrawnRows
import Derived.Deep.DeepCutAuto
set_option linter.unusedVariables false
set_option linter.unusedSimpArgs false

section
namespace Go.Proofs.YtcaoblilkgajoaaDoor
open Go Go.RowKit
attribute [local go_sem ↓] Go.wp_at_zero Go.wp_at_succ
/-- A braid's box, and what lay before: kept. -/
def PX (w2 : World) (gx : Nat) (u v : Value) (W : World) : Prop := Row W gx 24 [u, v] ∧ Below w2.heap.size w2 W ∧ gx < w2.heap.size
section
variable {w2 W : World} {gx : Nat} {u v : Value}
theorem PX.all (h : PX w2 gx u v W) : W.cell? ⟨gx, 0, none⟩ = some u ∧ W.cell? ⟨gx, 1, none⟩ = some v ∧ PX w2 gx u v W := ⟨(box2b h.1).1, (box2b h.1).2.1, h⟩
theorem PX.start (h : Row w2 gx 24 [u, v]) : PX w2 gx u v w2 := ⟨h, Below.refl _ _, h.lt⟩
theorem PX.drew (h : PX w2 gx u v W) : PX w2 gx u v W.drew := ⟨h.1.drew, h.2.1.drew, h.2.2⟩
theorem PX.alloc (h : PX w2 gx u v W) (o : Obj) : PX w2 gx u v (W.alloc o) := ⟨h.1.alloc o, h.2.1.alloc h.2.1.size o, h.2.2⟩
theorem PX.below {W' : World} (h : PX w2 gx u v W) (hb : Below W.heap.size W W') : PX w2 gx u v W' := ⟨h.1.below hb, h.2.1.trans (hb.mono h.2.1.size), h.2.2⟩
theorem PX.set {g o : Nat} {x : Value} (hg : w2.heap.size ≤ g) (h : PX w2 gx u v W) : PX w2 gx u v (W.setCell ⟨g, o, none⟩ x) :=
  ⟨h.1.other (a := ⟨g, o, none⟩) (by show gx ≠ g; have := h.2.2; omega) x, h.2.1.setCell (by show _ ≤ g; omega) x, h.2.2⟩
theorem PX.ints {A : Option Addr} {n : Nat} {ws : List Int} (h : PX w2 gx u v W) (hw : IntsAt w2 A n ws) : IntsAt W A n ws := hw.keep h.2.1
end
set_option maxRecDepth 100000 in
set_option maxHeartbeats 4000000 in
theorem braidBasics_walk (s : Int) (ws : List Int) (A : Option Addr) (n c : Nat) (w : World) (hw : IntsAt w A n ws) (hn : n ≤ maxLen) (hg : GV w) (hw0 : 0 < w.heap.size) :
    Calls Tryd.prog 7 #[.agg #[.int .i64 s, .slice A n c]] w fun e w' => e = .returned (.bool true) ∧ Below w.heap.size w w' := by
  have HG := hide hg
  have HW := hide hw
  have HN := hide hn
  unfold maxLen at hn
  clear hg hw
  obtain ⟨t, pl, zi, zr, ex, hans⟩ := bAns_ex s ws
  have HA := hide hans
  clear hans
  have X0 := hide (row_at (W := w) (g := w.heap.size) (t := 24) (vs := [.int .i64 s, .slice A n c]) rfl)
  have B0 := hide (show Below w.heap.size w (w.alloc (.cells #[.int .i64 s, .slice A n c] 24)) from (Below.refl _ _).alloc (Nat.le_refl _) _)
  have S0 := hide (show 0 < (w.alloc (.cells #[.int .i64 s, .slice A n c] 24)).heap.size by simp)
  go_enter Tryd.func7, Tryd.ntmps7
  go_wp2_with fail
  refine (awake33 _ (HG.out.below B0.out) S0.out).mono ?_
  rintro e w1 ⟨rfl, hb1⟩
  have B1 := hide (B0.out.trans (hb1.mono B0.out.size))
  have X1 := hide (X0.out.below hb1)
  clear hb1 X0 B0 S0
  obtain ⟨d0, d1, d2⟩ := box2b X1.out
  go_wp2_with fail
  refine (great33 s A n c _ HN.out).mono ?_
  rintro e w2 ⟨rfl, hb2⟩
  have B2 := hide (B1.out.trans (hb2.mono B1.out.size))
  have X2 := hide (X1.out.below hb2)
  have hgx : w.heap.size < w2.heap.size := X2.out.lt
  clear hb2 X1 B1 d0 d1 d2
  obtain ⟨d0, d1, d2⟩ := box2b X2.out
  by_cases h30 : 30 < n
  · rw [show decide (30 < n) = true by simp [h30]]
    go_wp2
    go_ret
    exact ⟨rfl, B2.out⟩
  · rw [show decide (30 < n) = false by simp [h30]]
    have HW2 := hide (HW.out.keep B2.out)
    go_upto_region 5 with fail
    go_cut [3, 4, 5] (fun s3 s4 s5 wx => ∃ (g4 g5 : Nat) (Ap : Option Addr) (cp : Nat) (Ai : Option Addr) (ci : Nat) (Ar : Option Addr) (cr : Nat), s3 = .slice Ap pl.length cp ∧ s4 = .pointer (some ⟨g4, 0, none⟩) ∧ s5 = .pointer (some ⟨g5, 0, none⟩) ∧ B5 w2 w.heap.size g4 g5 s A n c t Ap pl Ai ci zi Ar cr zr wx)
    case first =>
      have P0 := hide (PX.start X2.out)
      clear X2
      go_region_held3 (fun w' => w'.cell? ⟨w.heap.size, 0, none⟩ = some (.int .i64 s) ∧ w'.cell? ⟨w.heap.size, 1, none⟩ = some (.slice A n c) ∧ PX w2 w.heap.size (.int .i64 s) (.slice A n c) w')
        ((go_split_ands; refine PX.all ?_; (repeat (first | (with_reducible assumption) | (with_reducible exact P0.out) | (with_reducible refine PX.drew ?_) | (with_reducible refine PX.alloc ?_ _) | (with_reducible refine PX.below ?_ hb7) | (with_reducible refine PX.below ?_ hb6) | (with_reducible refine PX.below ?_ hb5) | (with_reducible refine PX.set ?_ ?_) | omega))))
        (first
        | (go_at_call 25
           have hx := hb6
           refine Calls.mono (reduce_for HA.out A n c _ (PX.ints (gx := w.heap.size) (u := .int .i64 s) (v := .slice A n c) ?_ HW2.out) HN.out) ?_
           · (repeat (first | (with_reducible assumption) | (with_reducible exact P0.out) | (with_reducible refine PX.drew ?_) | (with_reducible refine PX.alloc ?_ _) | (with_reducible refine PX.below ?_ hb7) | (with_reducible refine PX.below ?_ hb6) | (with_reducible refine PX.below ?_ hb5) | (with_reducible refine PX.set ?_ ?_) | omega))
           rintro e w7 ⟨A7, c7, rfl, hP7, hb7⟩
           have z7 := hb7.size
           try simp at z7
           try ((have qr : Row w7 (w2.heap.size) 24 [.int .i64 0, .slice none 0 0] := by (refine Row.below ?_ hb7; (repeat (first | (with_reducible refine Row2.new ?_; (first | rfl | (simp; done))) | (with_reducible refine Row.drew ?_) | (with_reducible refine Row.alloc ?_ _) | (with_reducible refine Row.below ?_ hb7) | (with_reducible refine Row.below ?_ hb6) | (with_reducible refine Row.below ?_ hb5))); done)); (obtain ⟨qa, qb, qc⟩ := box2b qr); (have ql := qr.lt); (clear qr))
           try ((have qr : Row w7 (w2.heap.size + 1) 24 [.int .i64 0, .slice none 0 0] := by (refine Row.below ?_ hb7; (repeat (first | (with_reducible refine Row2.new ?_; (first | rfl | (simp; done))) | (with_reducible refine Row.drew ?_) | (with_reducible refine Row.alloc ?_ _) | (with_reducible refine Row.below ?_ hb7) | (with_reducible refine Row.below ?_ hb6) | (with_reducible refine Row.below ?_ hb5))); done)); (obtain ⟨qa, qb, qc⟩ := box2b qr); (have ql := qr.lt); (clear qr))
           try ((have qr : Row w7 (w5.heap.size) 24 [.int .i64 0, .slice none 0 0] := by (refine Row.below ?_ hb7; (repeat (first | (with_reducible refine Row2.new ?_; (first | rfl | (simp; done))) | (with_reducible refine Row.drew ?_) | (with_reducible refine Row.alloc ?_ _) | (with_reducible refine Row.below ?_ hb7) | (with_reducible refine Row.below ?_ hb6) | (with_reducible refine Row.below ?_ hb5))); done)); (obtain ⟨qa, qb, qc⟩ := box2b qr); (have ql := qr.lt); (clear qr))
           try ((have qr : Row w7 (w5.heap.size + 1) 24 [.int .i64 0, .slice none 0 0] := by (refine Row.below ?_ hb7; (repeat (first | (with_reducible refine Row2.new ?_; (first | rfl | (simp; done))) | (with_reducible refine Row.drew ?_) | (with_reducible refine Row.alloc ?_ _) | (with_reducible refine Row.below ?_ hb7) | (with_reducible refine Row.below ?_ hb6) | (with_reducible refine Row.below ?_ hb5))); done)); (obtain ⟨qa, qb, qc⟩ := box2b qr); (have ql := qr.lt); (clear qr))
           try ((have qr : Row w7 (w6.heap.size) 24 [.int .i64 0, .slice none 0 0] := by (refine Row.below ?_ hb7; (repeat (first | (with_reducible refine Row2.new ?_; (first | rfl | (simp; done))) | (with_reducible refine Row.drew ?_) | (with_reducible refine Row.alloc ?_ _) | (with_reducible refine Row.below ?_ hb7) | (with_reducible refine Row.below ?_ hb6) | (with_reducible refine Row.below ?_ hb5))); done)); (obtain ⟨qa, qb, qc⟩ := box2b qr); (have ql := qr.lt); (clear qr))
           try ((have qr : Row w7 (w6.heap.size + 1) 24 [.int .i64 0, .slice none 0 0] := by (refine Row.below ?_ hb7; (repeat (first | (with_reducible refine Row2.new ?_; (first | rfl | (simp; done))) | (with_reducible refine Row.drew ?_) | (with_reducible refine Row.alloc ?_ _) | (with_reducible refine Row.below ?_ hb7) | (with_reducible refine Row.below ?_ hb6) | (with_reducible refine Row.below ?_ hb5))); done)); (obtain ⟨qa, qb, qc⟩ := box2b qr); (have ql := qr.lt); (clear qr)))
        | (go_at_call 24
           have hx := hb5
           refine Calls.mono (inverse_for HA.out A n c _ (PX.ints (gx := w.heap.size) (u := .int .i64 s) (v := .slice A n c) ?_ HW2.out) HN.out) ?_
           · (repeat (first | (with_reducible assumption) | (with_reducible exact P0.out) | (with_reducible refine PX.drew ?_) | (with_reducible refine PX.alloc ?_ _) | (with_reducible refine PX.below ?_ hb7) | (with_reducible refine PX.below ?_ hb6) | (with_reducible refine PX.below ?_ hb5) | (with_reducible refine PX.set ?_ ?_) | omega))
           rintro e w6 ⟨A6, c6, rfl, hP6, hb6⟩
           have z6 := hb6.size
           try simp at z6
           try ((have qr : Row w6 (w2.heap.size) 24 [.int .i64 0, .slice none 0 0] := by (refine Row.below ?_ hb6; (repeat (first | (with_reducible refine Row2.new ?_; (first | rfl | (simp; done))) | (with_reducible refine Row.drew ?_) | (with_reducible refine Row.alloc ?_ _) | (with_reducible refine Row.below ?_ hb7) | (with_reducible refine Row.below ?_ hb6) | (with_reducible refine Row.below ?_ hb5))); done)); (obtain ⟨qa, qb, qc⟩ := box2b qr); (have ql := qr.lt); (clear qr))
           try ((have qr : Row w6 (w2.heap.size + 1) 24 [.int .i64 0, .slice none 0 0] := by (refine Row.below ?_ hb6; (repeat (first | (with_reducible refine Row2.new ?_; (first | rfl | (simp; done))) | (with_reducible refine Row.drew ?_) | (with_reducible refine Row.alloc ?_ _) | (with_reducible refine Row.below ?_ hb7) | (with_reducible refine Row.below ?_ hb6) | (with_reducible refine Row.below ?_ hb5))); done)); (obtain ⟨qa, qb, qc⟩ := box2b qr); (have ql := qr.lt); (clear qr))
           try ((have qr : Row w6 (w5.heap.size) 24 [.int .i64 0, .slice none 0 0] := by (refine Row.below ?_ hb6; (repeat (first | (with_reducible refine Row2.new ?_; (first | rfl | (simp; done))) | (with_reducible refine Row.drew ?_) | (with_reducible refine Row.alloc ?_ _) | (with_reducible refine Row.below ?_ hb7) | (with_reducible refine Row.below ?_ hb6) | (with_reducible refine Row.below ?_ hb5))); done)); (obtain ⟨qa, qb, qc⟩ := box2b qr); (have ql := qr.lt); (clear qr))
           try ((have qr : Row w6 (w5.heap.size + 1) 24 [.int .i64 0, .slice none 0 0] := by (refine Row.below ?_ hb6; (repeat (first | (with_reducible refine Row2.new ?_; (first | rfl | (simp; done))) | (with_reducible refine Row.drew ?_) | (with_reducible refine Row.alloc ?_ _) | (with_reducible refine Row.below ?_ hb7) | (with_reducible refine Row.below ?_ hb6) | (with_reducible refine Row.below ?_ hb5))); done)); (obtain ⟨qa, qb, qc⟩ := box2b qr); (have ql := qr.lt); (clear qr)))
        | (go_at_call 23
           refine Calls.mono (perm_for HA.out A n c _ (PX.ints (gx := w.heap.size) (u := .int .i64 s) (v := .slice A n c) ?_ HW2.out) HN.out) ?_
           · (repeat (first | (with_reducible assumption) | (with_reducible exact P0.out) | (with_reducible refine PX.drew ?_) | (with_reducible refine PX.alloc ?_ _) | (with_reducible refine PX.below ?_ hb7) | (with_reducible refine PX.below ?_ hb6) | (with_reducible refine PX.below ?_ hb5) | (with_reducible refine PX.set ?_ ?_) | omega))
           rintro e w5 ⟨A5, c5, rfl, hP5, hb5⟩
           have z5 := hb5.size
           try simp at z5
           try ((have qr : Row w5 (w2.heap.size) 24 [.int .i64 0, .slice none 0 0] := by (refine Row.below ?_ hb5; (repeat (first | (with_reducible refine Row2.new ?_; (first | rfl | (simp; done))) | (with_reducible refine Row.drew ?_) | (with_reducible refine Row.alloc ?_ _) | (with_reducible refine Row.below ?_ hb7) | (with_reducible refine Row.below ?_ hb6) | (with_reducible refine Row.below ?_ hb5))); done)); (obtain ⟨qa, qb, qc⟩ := box2b qr); (have ql := qr.lt); (clear qr))
           try ((have qr : Row w5 (w2.heap.size + 1) 24 [.int .i64 0, .slice none 0 0] := by (refine Row.below ?_ hb5; (repeat (first | (with_reducible refine Row2.new ?_; (first | rfl | (simp; done))) | (with_reducible refine Row.drew ?_) | (with_reducible refine Row.alloc ?_ _) | (with_reducible refine Row.below ?_ hb7) | (with_reducible refine Row.below ?_ hb6) | (with_reducible refine Row.below ?_ hb5))); done)); (obtain ⟨qa, qb, qc⟩ := box2b qr); (have ql := qr.lt); (clear qr))))
      all_goals (go_wp2_with fail; go_meet)
      all_goals (have HX := hide (‹_ ∧ _ ∧ PX w2 w.heap.size (.int .i64 s) (.slice A n c) _›).2.2)
      all_goals refine ⟨_, _, _, _, A6, c6, A7, c7, rfl, rfl, rfl, HX.out.1, ?_, ?_, ?_, ?_, ?_, HX.out.2.1⟩
      all_goals (repeat' (first
        | (with_reducible assumption)
        | (with_reducible refine Row2.new ?_; (first | rfl | (simp; done)))
        | (with_reducible refine Row2.s1 (b := .slice none 0 0) ?_)
        | (with_reducible refine Row2.s0 (a := .int .i64 0) ?_)
        | (with_reducible refine Row2.far ?_ (by omega))
        | (with_reducible refine Row.alloc ?_ _)
        | (with_reducible refine Row.drew ?_)
        | (with_reducible refine Row.below ?_ hb7)
        | (with_reducible refine Row.below ?_ hb6)
        | (with_reducible refine Row.below ?_ hb5)
        | (with_reducible refine RowT.store (i := 1) (t' := 24) (vs := [.int .i64 t, .slice none 0 0]) ?_ ?_ (by decide) _)
        | (with_reducible refine RowT.store (i := 0) (t' := 24) (vs := [.int .i64 0, .slice none 0 0]) ?_ ?_ (by decide) _)
        | (with_reducible refine RowT.alloc ?_ _)
        | (with_reducible refine RowT.keep ?_ hb7)
        | (with_reducible refine RowT.keep ?_ hb6)
        | (with_reducible refine RowT.keep ?_ hb5)))
    case rest =>
      clear X2 d0 d1 d2
      obtain ⟨g4, g5, Ap, cp, Ai, ci, Ar, cr, rfl, rfl, rfl, h5⟩ := hcut
      have K0 := hide h5
      clear h5
      obtain ⟨d0, d1, d2⟩ := box2b K0.out.x
      have hn30 : n ≤ 30 := by omega
      by_cases hv : Pl.BV s ws
      · obtain ⟨rfl, hpl, hzi, hzr, hex⟩ := HA.out.1 hv
        have HPL := hide hpl
        have HZI := hide hzi
        have HZR := hide hzr
        have HEX := hide hex
        have HV := hide hv
        obtain ⟨q, hq⟩ : ∃ q : Nat, t = (q : Int) := ⟨t.toNat, by have := hv.1; omega⟩
        obtain ⟨np, hnp⟩ : ∃ np, np = pl.length := ⟨_, rfl⟩
        have HNP := hide hnp
        obtain ⟨ni, hni⟩ : ∃ np, np = zi.length := ⟨_, rfl⟩
        have HNI := hide hni
        obtain ⟨nr, hnr⟩ : ∃ np, np = zr.length := ⟨_, rfl⟩
        have HNR := hide hnr
        have HR4 := hide (show Row wc g4 24 [.int .i64 t, .slice Ai ni ci] by rw [hni]; exact K0.out.r4)
        have HR5 := hide (show Row wc g5 24 [.int .i64 t, .slice Ar nr cr] by rw [hnr]; exact K0.out.r5)
        have HQ := hide hq
        have HL := hide HW.out.len
        have HBD := hide (show ∀ x, x ∈ ws → -10 ≤ x ∧ x ≤ 10 from fun x hx => by
          have h1 := hv.2.1
          have h2 := hv.2.2.2 x hx
          omega)
        rw [← hnp]
        clear hv hpl hzi hzr hex hq hnp hni hnr
        go_wp2_with fail
        refine (rvalidB_any t ws A n c _ (HW2.out.keep K0.out.bel) HN.out).mono ?_
        rintro e w5 ⟨rfl, rfl⟩
        rw [Pl.vb_true HV.out]
        have hn1 : (0 : Int) ≤ (n : Int) := by omega
        go_upto_region 11 with fail
        go_loopg [7, 8] n (fun g s7 i wx => ∃ k : Nat, k + g = n ∧ i = .int .i64 ((g : Int) - 1) ∧ wx.ownsRow w5.heap.size 3 1 s7 k (((ws.drop g).reverse.map (fun x => -x)).map (.int .i64)) ∧ Below w5.heap.size w5 wx)
        case atStart =>
          refine ⟨0, by omega, rfl, ?_, Below.refl _ _⟩
          rw [List.drop_eq_nil_of_le (by rw [HL.out]; exact Nat.le_refl _)]
          exact World.ownsRow_nil _ _ _ _
        case round =>
          obtain ⟨k, hkg, rfl, ho, hb⟩ := hrel
          have HKG := hide hkg
          have OW := hide ho
          have HB := hide hb
          have hkn : k ≤ n := by omega
          clear ho hb d0 d1 d2
          have K1 := hide (K0.out.below HB.out)
          obtain ⟨d0, d1, d2⟩ := box2b K1.out.x
          by_cases hk : 0 < gk
          · obtain ⟨m, rfl⟩ : ∃ m, gk = m + 1 := ⟨gk - 1, by omega⟩
            have hi : ((m + 1 : Nat) : Int) - 1 = (m : Int) := by omega
            rw [hi]
            have hmn : m < n := by omega
            have hmi : (m : Int) < (n : Int) := by omega
            have m0 : (0 : Int) ≤ (m : Int) := by omega
            obtain ⟨b, o, rfl, x1⟩ := (HW2.out.keep (K1.out.bel)).at_ hmn
            obtain ⟨x, hxm, hx, hxt⟩ := letter_at HL.out hmn
            rw [hx] at x1
            have hxb := HBD.out x hxm
            obtain ⟨hxb1, hxb2⟩ := hxb
            have HXT := hide (show ((ws.drop m).reverse.map (fun x => -x)).map (Value.int .i64) = ((ws.drop (m + 1)).reverse.map (fun x => -x)).map (Value.int .i64) ++ [.int .i64 (-x)] by
              have hlt : m < ws.length := by rw [HL.out]; exact hmn
              have h1 : ws[m] = x := by
                rw [← hx, List.getD_eq_getElem?_getD, List.getElem?_eq_getElem hlt]
                rfl
              rw [List.drop_eq_getElem_cons hlt, h1]
              simp)
            clear hx hxt hxm hi hkg
            obtain ⟨A4, c4, rfl⟩ := owns_slice OW.out
            obtain ⟨i0, hi0, hz0, hz1, hz2⟩ := info_parts intInfo
            have hbig : w5.heap.size ≤ wr.heap.size := HB.out.size
            have OA := hide (own_below OW.out ((Below.refl wr.heap.size wr).alloc (Nat.le_refl _) (.cells #[.int .i64 (-x)] 3)))
            go_wp2_with (at_builtin; refine wpList_append_lies _ (by rfl) _ _ 22 (by rfl) w5.heap.size 3 i0 (.int .i64 0) 1 8 Tryd.underlying22 hi0 hz0 hz1 hz2 rfl (by omega) _ k _ (by rfl) OA.out ⟨wr.heap.size, 0, none⟩ 1 1 [.int .i64 (-x)] (by rfl) (by rfl) (one_news _ _) (by simp [Value.oneCell']) (by omega) (by unfold maxLen; omega) (by omega) (by simp; omega) (wr.heap.size + 1) (by simp) ?_; intro g3 c3 w3 own3 grow3 at3 lt3; have OWN3 := hide own3; have GR3 := hide grow3; clear own3 grow3 at3)
            go_roundg m
            case measure => omega
            case rel => exact ⟨k + 1, by have := HKG.out; omega, by go_num, by rw [HXT.out]; exact OWN3.out, (HB.out.alloc hbig _).grown GR3.out (by simp; omega) (fun j hj => (OA.out.lt j hj).1)⟩
          · obtain rfl : gk = 0 := by omega
            have hkn' : k = n := by omega
            subst hkn'
            obtain ⟨A4, c4, rfl⟩ := owns_slice OW.out
            have HBK := hide (show IntsAt wr A4 k zi from by
              have h := (own_rowT OW.out).row
              rw [show zi = ws.reverse.map (fun x => -x) from HZI.out]
              exact h)
            clear OW
            have hL0 : (0 : Int) ≤ (k : Int) := by omega
            go_upto_region 15 with fail
            go_loopg [6, 10, 70] k (fun g s6 s10 i wx => ∃ j : Nat, j + g = k ∧ i = .int .i64 (j : Int) ∧ s6 = .int .i64 (Pl.exW (ws.take j)) ∧ wx = wr)
            case atStart => exact ⟨0, by omega, rfl, rfl, rfl⟩
            case round =>
              obtain ⟨j, hjg, rfl, rfl, rfl⟩ := hrel
              have HJG := hide hjg
              have hjk : j ≤ k := by omega
              clear hjg
              by_cases hj : j < k
              · have hji : (j : Int) < (k : Int) := by omega
                have j0 : (0 : Int) ≤ (j : Int) := by omega
                obtain ⟨b, o, rfl, x1⟩ := (HW2.out.keep (K1.out.bel)).at_ hj
                obtain ⟨x, hxm, hx, hxt⟩ := letter_at HL.out hj
                rw [hx] at x1
                have HE := hide (show Pl.exW (ws.take (j + 1)) = Pl.ex1 (Pl.exW (ws.take j)) x by rw [hxt, Pl.exW_snoc])
                obtain ⟨sm, hsm⟩ : ∃ e, e = Pl.exW (ws.take j) := ⟨_, rfl⟩
                have hsb : -30 ≤ sm ∧ sm ≤ 30 := by
                  have := Pl.exW_abs (ws.take j)
                  rw [List.length_take] at this
                  omega
                obtain ⟨hsb1, hsb2⟩ := hsb
                rw [← hsm] at HE ⊢
                clear hx hxt hxm hsm
                by_cases h0 : (0 : Int) < x
                · have HE2 := hide (show Pl.ex1 sm x = sm + 1 by unfold Pl.ex1; rw [if_pos h0])
                  go_wp2_with fail
                  go_roundg (gk - 1)
                  case measure => have := HJG.out; omega
                  case rel => exact ⟨j + 1, by have := HJG.out; omega, by go_num, by rw [HE.out, HE2.out], rfl⟩
                · have HE2 := hide (show Pl.ex1 sm x = sm - 1 by unfold Pl.ex1; rw [if_neg h0])
                  go_wp2_with fail
                  go_roundg (gk - 1)
                  case measure => have := HJG.out; omega
                  case rel => exact ⟨j + 1, by have := HJG.out; omega, by go_num, by rw [HE.out, HE2.out], rfl⟩
              · have hji : ¬ ((j : Int) < (k : Int)) := by omega
                obtain rfl : j = k := by omega
                rw [show Pl.exW (ws.take j) = ex from by rw [List.take_of_length_le (by rw [HL.out]; exact Nat.le_refl _)]; exact HEX.out.symm]
                have K2 := hide (K1.out.below (Below.refl wr.heap.size wr).drew)
                obtain ⟨e0, e1, e2⟩ := box2b (HR4.out.below HB.out)
                obtain ⟨f0, f1, f2⟩ := box2b (HR5.out.below HB.out)
                have H4 := hide (HR4.out.below HB.out)
                have H5 := hide (HR5.out.below HB.out)
                have T0 := hide (Below.refl wr.heap.size wr).drew
                have HP := hide K1.out.p
                have HI := hide K1.out.i
                have HRR := hide K1.out.r
                rw [← HNP.out] at HP
                rw [← HNI.out] at HI
                rw [← HNR.out] at HRR
                have hni30 : ni = j := by
                  rw [HNI.out, HZI.out]
                  simp [HL.out]
                have hnr30 : nr ≤ 100000 := by
                  have := Pl.rdW_len ws
                  rw [HNR.out, HZR.out]
                  have := HL.out
                  omega
                have hnp10 : np = q := by
                  rw [HNP.out, HPL.out, Pl.pmR_len, HQ.out, Int.toNat_natCast]
                subst hni30
                subst hnp10
                have hq10 : np ≤ 100 := by have := HV.out.2.1; have := HQ.out; omega
                have HVQ := hide (show Pl.BV (np : Int) ws by rw [← HQ.out]; exact HV.out)
                have HPM := hide (show nats pl = nats (Pl.pmR np ws) by rw [HPL.out, HQ.out, Int.toNat_natCast])
                have hn100 : ni ≤ 100000 := by omega
                obtain rfl := HQ.out
                go_upto_region 21 with fail
                go_region_held3 (fun w' => w'.cell? ⟨w.heap.size, 0, none⟩ = some (.int .i64 (np : Int)) ∧ w'.cell? ⟨w.heap.size, 1, none⟩ = some (.slice A ni c) ∧ w'.cell? ⟨g4, 0, none⟩ = some (.int .i64 (np : Int)) ∧ w'.cell? ⟨g4, 1, none⟩ = some (.slice Ai ni ci) ∧ w'.cell? ⟨g5, 0, none⟩ = some (.int .i64 (np : Int)) ∧ w'.cell? ⟨g5, 1, none⟩ = some (.slice Ar nr cr))
                  (first | go_keep | assumption | (exact ⟨k0, k1, p0, p1, q0, q1⟩))
                  (first
                  | (go_at_call 19
                     have hx := T12
                     refine Calls.mono (bsame_any (np : Int) (np : Int) zr (Pl.rdW ws) Ar B12 nr (Pl.rdW ws).length cr d12 _ ((show IntsAt _ _ _ zr from HRR.out.row).keep T12.out) hI12 hnr30 (by have := Pl.rdW_len ws; have := HL.out; omega)) ?_
                     rintro e w13 ⟨rfl, hb13⟩
                     rw [Pl.vb_true ⟨rfl, HZR.out⟩]
                     have T13 := hide (T12.out.trans (hb13.mono T12.out.size))
                     obtain ⟨k0, k1, k2⟩ := box2b (K1.out.x.below T13.out)
                     obtain ⟨p0, p1, p2⟩ := box2b (H4.out.below T13.out)
                     obtain ⟨q0, q1, q2⟩ := box2b (H5.out.below T13.out))
                  | (go_at_call 29
                     refine Calls.mono (rreduce_any ws HBD.out A ni c _ ((HW2.out.keep K1.out.bel).keep T11.out) (by omega)) ?_
                     rintro e w12 ⟨⟨B12, d12, rfl, hI12⟩, hb12⟩
                     have T12 := hide (T11.out.trans (hb12.mono T11.out.size))
                     obtain ⟨k0, k1, k2⟩ := box2b (K1.out.x.below T12.out)
                     obtain ⟨p0, p1, p2⟩ := box2b (H4.out.below T12.out)
                     obtain ⟨q0, q1, q2⟩ := box2b (H5.out.below T12.out))
                  | (go_at_call 19
                     refine Calls.mono (bsame_any (np : Int) (np : Int) zi zi Ai A4 ni ni ci c4 _ ((show IntsAt _ _ _ zi from HI.out.row).keep T10.out) (HBK.out.keep T10.out) hn100 hn100) ?_
                     rintro e w11 ⟨rfl, hb11⟩
                     rw [Pl.vb_true ⟨rfl, rfl⟩]
                     have T11 := hide (T10.out.trans (hb11.mono T10.out.size))
                     obtain ⟨k0, k1, k2⟩ := box2b (K1.out.x.below T11.out)
                     obtain ⟨p0, p1, p2⟩ := box2b (H4.out.below T11.out)
                     obtain ⟨q0, q1, q2⟩ := box2b (H5.out.below T11.out))
                  | (go_at_call 26
                     refine Calls.mono (exponent_for HA.out A ni c _ ((HW2.out.keep K1.out.bel).keep T9.out) HN.out) ?_
                     rintro e w10 ⟨rfl, hb10⟩
                     have T10 := hide (T9.out.trans (hb10.mono T9.out.size))
                     obtain ⟨k0, k1, k2⟩ := box2b (K1.out.x.below T10.out)
                     obtain ⟨p0, p1, p2⟩ := box2b (H4.out.below T10.out)
                     obtain ⟨q0, q1, q2⟩ := box2b (H5.out.below T10.out))
                  | (go_at_call 27
                     refine Calls.mono (rints_any (nats pl) (nats (Pl.pmR np ws)) Ap (some ⟨g8, 0, none⟩) np np cp np _ ((show IntsAt _ _ _ (nats pl) from HP.out.row).keep T8.out) (by have h := hI8.ints; rw [show (nats (Pl.pmR np ws)).length = np from by simp [nats, Pl.pmR_len]] at h; exact h) (by omega) (by omega)) ?_
                     rintro e w9 ⟨rfl, hb9⟩
                     rw [Pl.vb_true HPM.out]
                     have T9 := hide (T8.out.trans (hb9.mono T8.out.size))
                     obtain ⟨k0, k1, k2⟩ := box2b (K1.out.x.below T9.out)
                     obtain ⟨p0, p1, p2⟩ := box2b (H4.out.below T9.out)
                     obtain ⟨q0, q1, q2⟩ := box2b (H5.out.below T9.out))
                  | (go_at_call 28
                     refine Calls.mono (rperm_any np ws HVQ.out A ni c _ ((HW2.out.keep K1.out.bel).keep T7.out)) ?_
                     rintro e w8 ⟨⟨g8, rfl, hI8⟩, hb8⟩
                     have T8 := hide (T7.out.trans (hb8.mono T7.out.size))
                     obtain ⟨k0, k1, k2⟩ := box2b (K1.out.x.below T8.out)
                     obtain ⟨p0, p1, p2⟩ := box2b (H4.out.below T8.out)
                     obtain ⟨q0, q1, q2⟩ := box2b (H5.out.below T8.out))
                  | (go_at_call 16
                     refine Calls.mono (bvalid_any (np : Int) ws A ni c _ ((HW2.out.keep K1.out.bel).keep T0.out) HN.out) ?_
                     rintro e w7 ⟨rfl, hb7⟩
                     rw [Pl.vb_true HVQ.out]
                     have T7 := hide (T0.out.trans (hb7.mono T0.out.size))
                     obtain ⟨k0, k1, k2⟩ := box2b (K1.out.x.below T7.out)
                     obtain ⟨p0, p1, p2⟩ := box2b (H4.out.below T7.out)
                     obtain ⟨q0, q1, q2⟩ := box2b (H5.out.below T7.out)))
                all_goals (go_wp2_with fail)
                all_goals (go_ret; exact ⟨rfl, B2.out.trans ((K1.out.bel.trans (T13.out.mono K1.out.bel.size)).mono B2.out.size)⟩)
      · obtain ⟨rfl, rfl, rfl, rfl, rfl⟩ := HA.out.2 hv
        obtain ⟨e0, e1, e2⟩ := box2b (show Row wc g4 24 [.int .i64 0, .slice Ai 0 ci] from K0.out.r4)
        obtain ⟨f0, f1, f2⟩ := box2b (show Row wc g5 24 [.int .i64 0, .slice Ar 0 cr] from K0.out.r5)
        rw [List.length_nil]
        go_wp2_with fail
        refine (rvalidB_any s ws A n c _ (HW2.out.keep K0.out.bel) HN.out).mono ?_
        rintro e w5 ⟨rfl, rfl⟩
        rw [Pl.vb_false hv]
        go_wp2_with fail
        refine (bvalid_any s ws A n c _ (HW2.out.keep K0.out.bel) HN.out).mono ?_
        rintro e w6 ⟨rfl, hb6⟩
        rw [Pl.vb_false hv]
        have K6 := hide (K0.out.below hb6)
        clear hb6 d0 d1 d2 e0 e1 e2 f0 f1 f2
        obtain ⟨d0, d1, d2⟩ := box2b K6.out.x
        go_wp2_with fail
        refine (exponent_for HA.out A n c _ (HW2.out.keep K6.out.bel) HN.out).mono ?_
        rintro e w7 ⟨rfl, hb7⟩
        have K7 := hide (K6.out.below hb7)
        clear hb7 d0 d1 d2
        obtain ⟨e0, e1, e2⟩ := box2b (show Row w7 g4 24 [.int .i64 0, .slice Ai 0 ci] from K7.out.r4)
        go_wp2_with fail
        refine (bsame_any 0 0 [] [] Ai none 0 0 ci 0 _ (RowAt.zero _ _) (RowAt.nil _) (by omega) (by omega)).mono ?_
        rintro e w8 ⟨rfl, hb8⟩
        rw [Pl.vb_true ⟨rfl, rfl⟩]
        have K8 := hide (K7.out.below hb8)
        clear hb8 e0 e1 e2
        obtain ⟨f0, f1, f2⟩ := box2b (show Row w8 g5 24 [.int .i64 0, .slice Ar 0 cr] from K8.out.r5)
        go_wp2_with fail
        refine (bsame_any 0 0 [] [] Ar none 0 0 cr 0 _ (RowAt.zero _ _) (RowAt.nil _) (by omega) (by omega)).mono ?_
        rintro e w9 ⟨rfl, hb9⟩
        rw [Pl.vb_true ⟨rfl, rfl⟩]
        have K9 := hide (K8.out.below hb9)
        go_wp2
        go_ret
        exact ⟨rfl, B2.out.trans (K9.out.bel.mono B2.out.size)⟩
end Go.Proofs.YtcaoblilkgajoaaDoor
end
