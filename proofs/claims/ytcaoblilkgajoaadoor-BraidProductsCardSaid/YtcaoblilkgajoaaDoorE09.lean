/-
 The texts Bh, Trf, Bi, Bm, Bn, Bo, Bp, Br, Bt, Open, Xn, By in one.
-/
import Derived.Test.YtcaoblilkgajoaaDoorE08
import Derived.Test.YtcaoblilkgajoaaDoorE06
import Derived.Deep.RegionHeld3
import Derived.Test.YtcaoblilkgajoaaDoorRows
import Derived.Stop.LaidErr
import Derived.Lib.LaidTab
import Derived.RangeFuncNested
import Derived.RangeFuncBound
import Derived.RangeFuncCalls
import Derived.RangeFuncLeaves
import Derived.RangeFuncBox
import Derived.Shelf.Abstract
import Derived.Shelf.RegionOpen
import Derived.WalkKit
import Derived.OwnWalkIn
import Derived.TacticsInMore
import Derived.LoopNIn
import Derived.LoopIn
import Derived.Test.YtcaoblilkgajoaaDoorE00
import Derived.ProofKit
import Derived.OpenShut
import Derived.Deep.Slices
import Derived.Deep.Fields
import Derived.ChangeSame
import Derived.Test.YtcaoblilkgajoaaDoorE02
import Derived.ChangeSlices
import Derived.Deep.Strs
set_option linter.unusedVariables false
set_option linter.unusedSimpArgs false
section
namespace Go.Proofs.YtcaoblilkgajoaaDoor
open Go Go.RowKit
attribute [local go_sem ↓] Go.wp_at_zero Go.wp_at_succ
theorem rdOk_form {l : List UInt8} (h : rdOk l = true) : ∃ r, l = 32 :: r ∧ rdR l = r := by
 unfold rdOk at h
 rw [Bool.and_eq_true] at h
 have h1 := h.1
 unfold Lib.hasPrefix at h1
 cases l with
 | nil => simp at h1
 | cons a r =>
   have ha : a = 32 := by
    simp [List.isPrefixOf] at h1
    exact h1.symm
   subst ha
   refine ⟨r, rfl, ?_⟩
   unfold rdR Lib.trimPrefix
   rw [if_pos h.1]
   rfl
theorem rdRest_lt {l : List UInt8} (h : rdOk l = true) : (rdRest l).length < l.length := by
 obtain ⟨r, e, e2⟩ := rdOk_form h
 unfold rdRest
 rw [e2, List.length_drop, e]
 simp
 omega
def prW : Nat → List UInt8 → List Int → Option (List Int)
 | 0, _, _ => none
 | k + 1, l, ws => if l = [] then some ws else if rdOk l = true then prW k (rdRest l) (ws ++ [numV (rdTok l)]) else none
theorem prW_fuel : ∀ (k j : Nat) (l : List UInt8) (ws : List Int), l.length < k → l.length < j → prW k l ws = prW j l ws
 | 0, _, _, _, h, _ => by omega
 | _, 0, _, _, _, h => by omega
 | k + 1, j + 1, l, ws, h1, h2 => by
   unfold prW
   by_cases hl : l = []
   ·rw [if_pos hl, if_pos hl]
   ·rw [if_neg hl, if_neg hl]
    by_cases ho : rdOk l = true
    ·have := rdRest_lt ho
     rw [if_pos ho, if_pos ho]
     exact prW_fuel k j _ _ (by omega) (by omega)
    ·rw [if_neg ho, if_neg ho]
def prA (l : List UInt8) (ws : List Int) : Option (List Int) := prW (l.length + 1) l ws
theorem prA_nil (ws : List Int) : prA [] ws = some ws := rfl
theorem prA_step {l : List UInt8} {ws : List Int} (h : l ≠ []) (ho : rdOk l = true) : prA l ws = prA (rdRest l) (ws ++ [numV (rdTok l)]) := by
 have := rdRest_lt ho
 unfold prA
 rw [show prW (l.length + 1) l ws = prW l.length (rdRest l) (ws ++ [numV (rdTok l)]) by
  conv => lhs; unfold prW
  rw [if_neg h, if_pos ho]]
 exact prW_fuel _ _ _ _ (by omega) (by omega)
theorem prA_bad {l : List UInt8} {ws : List Int} (h : l ≠ []) (ho : ¬ rdOk l = true) : prA l ws = none := by
 unfold prA
 unfold prW
 rw [if_neg h, if_neg ho]
def parseR (l : List UInt8) : Option (Int × List Int) :=
 if (Lib.cut l [58]).2.2 = true ∧ numB (Lib.cut l [58]).1 = true then (prA (Lib.cut l [58]).2.1 []).map (fun ws => (numV (Lib.cut l [58]).1, ws)) else none
def brErr (c : Int) : Ending := .returned (.tuple #[.agg #[.int .i64 0, .slice none 0 0], .int .i64 c])
def ParsePost (l : List UInt8) (w : World) (e : Ending) (w' : World) : Prop :=
 (parseR l = none → e = brErr 3) ∧ (∀ st ws, parseR l = some (st, ws) → (¬ Pl.BV st ws → e = brErr 1) ∧ (Pl.BV st ws → ∃ (A : Option Addr) (c : Nat), e = .returned (.tuple #[.agg #[.int .i64 st, .slice A ws.length c], .int .i64 0]) ∧ IntsAt w' A ws.length ws)) ∧ Below w.heap.size w w'
theorem cut_len (l : List UInt8) : (Lib.cut l [58]).1.length ≤ l.length ∧ (Lib.cut l [58]).2.1.length ≤ l.length := by
 unfold Lib.cut
 split
 ·refine ⟨?_, ?_⟩
  ·rw [List.length_take]; exact Nat.min_le_right _ _
  ·rw [List.length_drop]; omega
 ·simp
theorem parse_err3 {l : List UInt8} {w W' : World} (h : parseR l = none) (hb : Below w.heap.size w W') : ParsePost l w (brErr 3) W' :=
 ⟨fun _ => rfl, fun st ws e => (by rw [h] at e; cases e), hb⟩
set_option maxRecDepth 100000 in
set_option maxHeartbeats 4000000 in
theorem parse_any (s : ByteArray) (hs : s.size ≤ 65536) (w : World) (hg : GV w) (hw : 0 < w.heap.size) :
 Calls Tryd.prog 18 #[.string s] w (ParsePost s.data.toList w) := by
 have HG := hide hg
 have R0 := hide (row_at (W := w) (g := w.heap.size) (t := 24) (vs := [.int .i64 0, .slice none 0 0]) rfl)
 have B0 := hide (show Below w.heap.size w (w.alloc (.cells #[.int .i64 0, .slice none 0 0] 24)) from (Below.refl _ _).alloc (Nat.le_refl _) _)
 have hs1 : ¬ ((65536 : Int) < (s.size : Int)) := by omega
 obtain ⟨mv, hmv⟩ := (HG.out.below B0.out).m
 clear hg
 go_enter Tryd.func18, Tryd.ntmps18
 go_wp2_with fail
 refine (Tryd.strings_Cut s ⟨#[58]⟩ mv _ (by omega) hmv).mono ?_
 rintro e w1 ⟨rfl, nd, rfl⟩
 obtain ⟨cc, hcc⟩ : ∃ c, c = Lib.cut s.data.toList (⟨#[58]⟩ : ByteArray).data.toList := ⟨_, rfl⟩
 rw [← hcc]
 have HCC := hide (show cc = Lib.cut s.data.toList [58] from hcc)
 have hcl := cut_len s.data.toList
 rw [← HCC.out, ← Lib.size_eq] at hcl
 obtain ⟨hcl1, hcl2⟩ := hcl
 clear hcc hmv
 obtain ⟨hd, tl, fd⟩ := cc
 obtain ⟨hs, hhs⟩ : ∃ x : ByteArray, x = ⟨hd.toArray⟩ := ⟨_, rfl⟩
 obtain ⟨ts, hts⟩ : ∃ x : ByteArray, x = ⟨tl.toArray⟩ := ⟨_, rfl⟩
 have HHS := hide (show hs.data.toList = hd by rw [hhs])
 have HTS := hide (show ts.data.toList = tl by rw [hts])
 have hhs1 : hs.size ≤ 65536 := by rw [Lib.size_eq, HHS.out]; simp at hcl1; omega
 have hts1 : ts.size ≤ 65536 := by rw [Lib.size_eq, HTS.out]; simp at hcl2; omega
 simp only []
 rw [← hhs, ← hts]
 clear hhs hts
 obtain ⟨V1, hV1⟩ : ∃ V, V = (w.alloc (.cells #[.int .i64 0, .slice none 0 0] 24)).drewN nd := ⟨_, rfl⟩
 have R1 := hide (show Row V1 w.heap.size 24 [.int .i64 0, .slice none 0 0] by rw [hV1]; exact R0.out.below (below_drewN (Below.refl _ _) _))
 have B1 := hide (show Below w.heap.size w V1 by rw [hV1]; exact below_drewN B0.out _)
 rw [← hV1]
 clear hV1 R0 B0
 have T1 := hide (row_at (W := V1) (g := V1.heap.size) (t := 9) (vs := [.string ts]) rfl)
 have C1' := hide (show Below V1.heap.size V1 (V1.alloc (.cells #[.string ts] 9)) from (Below.refl _ _).alloc (Nat.le_refl _) _)
 have hV1w : w.heap.size < V1.heap.size := R1.out.lt
 go_wp2_with fail
 refine (bnum_any hs (by omega) _ (HG.out.below (B1.out.trans (C1'.out.mono B1.out.size)))).mono ?_
 rintro e w2 ⟨rfl, hb2⟩
 rw [HHS.out]
 have R2 := hide (R1.out.below (C1'.out.trans (hb2.mono C1'.out.size)))
 have T2 := hide (T1.out.below hb2)
 have B2 := hide (C1'.out.trans (hb2.mono C1'.out.size))
 obtain ⟨gt, hgt⟩ : ∃ g, g = V1.heap.size := ⟨_, rfl⟩
 rw [← hgt] at T2 ⊢
 have HGT := hide hgt
 obtain ⟨nv, hnv⟩ : ∃ x, x = numV hd := ⟨_, rfl⟩
 obtain ⟨nb, hnb⟩ : ∃ x, x = numB hd := ⟨_, rfl⟩
 rw [← hnv, ← hnb]
 have HPR := hide (show parseR s.data.toList = if fd = true ∧ nb = true then (prA tl []).map (fun ws => (nv, ws)) else none by
  unfold parseR
  rw [← HCC.out, hnb, hnv])
 have BW := hide (B1.out.trans (B2.out.mono B1.out.size))
 obtain ⟨t0, t1, t2⟩ := box2b ((R2.out.set 0 (.int .i64 0)).set 1 (.slice none 0 0))
 obtain ⟨r0, r1, r2⟩ := box2b R2.out
 clear hgt hnv hnb hb2 T1 C1'
 by_cases hok : fd = true ∧ nb = true
 ·obtain ⟨rfl, rfl⟩ := hok
  go_upto_region 8 with fail
  obtain ⟨gb, hgb⟩ : ∃ g, g = w2.heap.size := ⟨_, rfl⟩
  obtain ⟨base, hbase⟩ : ∃ g, g = w2.heap.size + 1 := ⟨_, rfl⟩
  obtain ⟨V3, hV3⟩ : ∃ V, V = w2.alloc (.cells #[.int .i64 nv, .slice none 0 0] 24) := ⟨_, rfl⟩
  have P0 := hide (show PB base V1 gt gb ts nv (.slice none 0 0) [] V3 from by
   have h1 := T2.out.lt
   have h2 := B2.out.size
   have h3 := HGT.out
   rw [hV3, hgb, hbase]
   exact ⟨T2.out.alloc _, row_at rfl, World.ownsRow_nil _ _ _ _, ⟨by omega, by omega⟩, ⟨by omega, by omega⟩, by omega, B2.out.alloc h2 _, by simp⟩)
  rw [← hgb, ← hV3]
  clear hgb hbase hV3 t0 t1 t2 r0 r1 r2 T2
  go_wp2_with fail
  go_loopg [3] tl.length (fun g s3 wx => s3 = .int .i64 0 ∧ ∃ (s' : ByteArray) (vS : Value) (ws : List Int), PB base V1 gt gb s' nv vS ws wx ∧ s'.data.toList.length ≤ g ∧ ws.length + s'.data.toList.length ≤ 65536 ∧ prA tl [] = prA s'.data.toList ws)
  case atStart => exact ⟨rfl, ts, _, [], P0.out, by rw [HTS.out]; exact Nat.le_refl _, by rw [HTS.out]; have := hcl2; simp at this ⊢; omega, by rw [HTS.out]⟩
  case round =>
   clear P0
   obtain ⟨rfl, s', vS, ws, hp, hlen, hlw, hpa⟩ := hrel
   have P1 := hide hp
   have HPA := hide hpa
   clear hp hpa
   have c0 := P1.out.t.cell (i := 0) (by simp)
   simp only [List.getElem_cons_zero] at c0
   have R3 := hide (R1.out.below P1.out.bel)
   have B3 := hide (B1.out.trans (P1.out.bel.mono B1.out.size))
   by_cases hl : s'.data.toList = []
   ·have hem : s'.toList.isEmpty = true := by rw [ByteArray.toList_eq, hl]; rfl
    have HRS := hide (show parseR s.data.toList = some (nv, ws) by rw [HPR.out, if_pos (by simp), HPA.out, hl, prA_nil]; rfl)
    clear hl
    obtain ⟨A4, c4, rfl⟩ := owns_slice P1.out.own
    obtain ⟨b0, b1, b2⟩ := box2b P1.out.b
    go_wp2_with fail
    refine (bvalid_any nv ws A4 ws.length c4 _ (own_rowT P1.out.own).row (by unfold maxLen; omega)).mono ?_
    rintro e w4 ⟨rfl, hb4⟩
    have P4 := hide (P1.out.below hb4)
    have R4 := hide (R3.out.below hb4)
    have B4 := hide (B3.out.trans (hb4.mono B3.out.size))
    clear hb4 c0 b0 b1 b2 P1 R3 B3
    obtain ⟨b0, b1, b2⟩ := box2b P4.out.b
    obtain ⟨r0, r1, r2⟩ := box2b R4.out
    by_cases hv : Pl.BV nv ws
    ·rw [Pl.vb_true hv]
     have HV := hide hv
     clear hv
     obtain ⟨t0, t1, t2⟩ := box2b ((R4.out.set 0 (.int .i64 nv)).set 1 (.slice A4 ws.length c4))
     have hgb1 : w.heap.size < base := by have h1 := P4.out.lb; omega
     go_wp2
     refine bodyPost_ret (v := .tuple #[.agg #[.int .i64 nv, .slice A4 ws.length c4], .int .i64 0]) (by simp [results, Tryd.results18, go_sem, t0, t1]) rfl ?_
     refine ⟨fun h => (by rw [HRS.out] at h; cases h), fun st ws' h => ?_, (B4.out.setCell (by show _ ≤ w.heap.size; omega) _).setCell (by show _ ≤ w.heap.size; omega) _⟩
     rw [HRS.out] at h
     obtain ⟨rfl, rfl⟩ : nv = st ∧ ws = ws' := by simpa using h
     exact ⟨fun h => absurd HV.out h, fun _ => ⟨A4, c4, rfl, (own_rowT (ownsRow_setCell_below (ownsRow_setCell_below P4.out.own (by show w.heap.size < base; omega) _) (by show w.heap.size < base; omega) _)).row⟩⟩
    ·rw [Pl.vb_false hv]
     have HV := hide hv
     clear hv
     obtain ⟨t0, t1, t2⟩ := box2b ((R4.out.set 0 (.int .i64 0)).set 1 (.slice none 0 0))
     go_wp2
     refine bodyPost_ret (v := .tuple #[.agg #[.int .i64 0, .slice none 0 0], .int .i64 1]) (by simp [results, Tryd.results18, go_sem, t0, t1]) rfl ?_
     refine ⟨fun h => (by rw [HRS.out] at h; cases h), fun st ws' h => ?_, (B4.out.setCell (by show _ ≤ w.heap.size; omega) _).setCell (by show _ ≤ w.heap.size; omega) _⟩
     rw [HRS.out] at h
     obtain ⟨rfl, rfl⟩ : nv = st ∧ ws = ws' := by simpa using h
     exact ⟨fun _ => rfl, fun h => absurd h HV.out⟩
   ·have hem : s'.toList.isEmpty = false := by
     rw [ByteArray.toList_eq]
     cases h : s'.data.toList with
     | nil => exact absurd h hl
     | cons a r => rfl
    have HLN := hide hl
    have hpos : 0 < s'.data.toList.length := List.length_pos_iff.2 hl
    have hsz : s'.size ≤ 70000 := by rw [Lib.size_eq]; omega
    clear hl
    go_wp2_with fail
    refine (bread_any P1.out hsz (by omega) (HG.out.below B1.out)).mono ?_
    rintro e w3 ⟨rfl, s2, vS2, hs2, hp2⟩
    have P2 := hide hp2
    have HS2 := hide hs2
    have R4 := hide (R1.out.below P2.out.bel)
    have B4 := hide (B1.out.trans (P2.out.bel.mono B1.out.size))
    clear hp2 hs2 c0 P1 R3 B3 hem
    obtain ⟨ok, hok⟩ : ∃ b, b = rdOk s'.data.toList := ⟨_, rfl⟩
    rw [← hok]
    have HOK := hide hok
    clear hok
    cases ok with
    | true =>
      have HLT := hide (rdRest_lt HOK.out.symm)
      have HST := hide (prA_step (ws := ws) HLN.out HOK.out.symm)
      go_wp2
      go_roundg (gk - 1)
      case measure => omega
      case rel => exact ⟨rfl, s2, vS2, _, P2.out, by rw [HS2.out]; have := HLT.out; omega, by rw [HS2.out]; have := HLT.out; simp; omega, by rw [HPA.out, HST.out, HS2.out]⟩
    | false =>
      have HRN := hide (show parseR s.data.toList = none by rw [HPR.out, if_pos (by simp), HPA.out, prA_bad HLN.out (by rw [← HOK.out]; decide)]; rfl)
      obtain ⟨r0, r1, r2⟩ := box2b R4.out
      obtain ⟨t0, t1, t2⟩ := box2b ((R4.out.set 0 (.int .i64 0)).set 1 (.slice none 0 0))
      go_wp2
      refine bodyPost_ret (v := .tuple #[.agg #[.int .i64 0, .slice none 0 0], .int .i64 3]) (by simp [results, Tryd.results18, go_sem, t0, t1]) rfl ?_
      exact parse_err3 HRN.out ((B4.out.setCell (by show _ ≤ w.heap.size; omega) _).setCell (by show _ ≤ w.heap.size; omega) _)
 ·have HN := hide (show parseR s.data.toList = none by rw [HPR.out, if_neg hok])
  have hfb : fd = false ∨ (fd = true ∧ nb = false) := by
   cases fd
   ·exact .inl rfl
   ·cases nb
    ·exact .inr ⟨rfl, rfl⟩
    ·exact absurd ⟨rfl, rfl⟩ hok
  clear hok
  rcases hfb with rfl | ⟨rfl, rfl⟩
  ·go_wp2
   refine bodyPost_ret (v := .tuple #[.agg #[.int .i64 0, .slice none 0 0], .int .i64 3]) (by simp [results, Tryd.results18, go_sem, t0, t1]) rfl ?_
   exact parse_err3 HN.out ((BW.out.setCell (by show _ ≤ w.heap.size; omega) _).setCell (by show _ ≤ w.heap.size; omega) _)
  ·go_wp2
   refine bodyPost_ret (v := .tuple #[.agg #[.int .i64 0, .slice none 0 0], .int .i64 3]) (by simp [results, Tryd.results18, go_sem, t0, t1]) rfl ?_
   exact parse_err3 HN.out ((BW.out.setCell (by show _ ≤ w.heap.size; omega) _).setCell (by show _ ≤ w.heap.size; omega) _)
end Go.Proofs.YtcaoblilkgajoaaDoor
end
section
namespace Go.Proofs.YtcaoblilkgajoaaDoor.Pl
def tref : Dg := ⟨[1, 1, 1], [9, 4, 7, 10, 1, 8, 11, 2, 5, 0, 3, 6], 0⟩
theorem tref_is : clD 2 [1, 1, 1] = tref := by decide
theorem tref_n : tref.n = 3 := rfl
theorem tref_wf : Wf tref := by
 refine ⟨by decide, by decide, by decide, ?_, ?_, ?_, ?_, ?_⟩
 ·show ∀ c, c < 3 → tref.s c = 1 ∨ tref.s c = -1
  decide
 ·show ∀ h, h < 12 → tref.m h < 12
  decide
 ·show ∀ h, h < 12 → tref.m h ≠ h
  decide
 ·show ∀ h, h < 12 → tref.m (tref.m h) = h
  decide
 ·show ∀ h, h < 12 → out tref h ≠ out tref (tref.m h)
  decide
theorem it_period {f : Nat → Nat} {h p : Nat} (hp : 0 < p) (e : it f p h = h) (hl : ∀ k, k < p → h ≤ it f k h) : ∀ k, h ≤ it f k h := by
 intro k
 induction k using Nat.strongRecOn with
 | _ k ih =>
   by_cases hk : k < p
   ·exact hl k hk
   ·have := ih (k - p) (by omega)
    rw [show k = (k - p) + p by omega, it_add, e]
    exact this
theorem tref_least : ∀ h, h < 12 → (Least (nx tref) h ↔ h = 0 ∨ h = 1 ∨ h = 2 ∨ h = 3 ∨ h = 5) := by
 intro h hh
 have yes3 : ∀ h, it (nx tref) 3 h = h → h ≤ it (nx tref) 1 h → h ≤ it (nx tref) 2 h → Least (nx tref) h := fun h e a b => it_period (by omega) e (fun k hk => by
  match k, hk with
  | 0, _ => exact Nat.le_refl _
  | 1, _ => exact a
  | 2, _ => exact b)
 have yes2 : ∀ h, it (nx tref) 2 h = h → h ≤ it (nx tref) 1 h → Least (nx tref) h := fun h e a => it_period (by omega) e (fun k hk => by
  match k, hk with
  | 0, _ => exact Nat.le_refl _
  | 1, _ => exact a)
 match h, hh with
 | 0, _ => exact ⟨fun _ => by omega, fun _ => yes3 0 (by decide) (by decide) (by decide)⟩
 | 1, _ => exact ⟨fun _ => by omega, fun _ => yes2 1 (by decide) (by decide)⟩
 | 2, _ => exact ⟨fun _ => by omega, fun _ => yes3 2 (by decide) (by decide) (by decide)⟩
 | 3, _ => exact ⟨fun _ => by omega, fun _ => yes2 3 (by decide) (by decide)⟩
 | 4, _ => exact ⟨fun l => absurd (l 1) (by decide), fun e => by omega⟩
 | 5, _ => exact ⟨fun _ => by omega, fun _ => yes2 5 (by decide) (by decide)⟩
 | 6, _ => exact ⟨fun l => absurd (l 2) (by decide), fun e => by omega⟩
 | 7, _ => exact ⟨fun l => absurd (l 1) (by decide), fun e => by omega⟩
 | 8, _ => exact ⟨fun l => absurd (l 1) (by decide), fun e => by omega⟩
 | 9, _ => exact ⟨fun l => absurd (l 1) (by decide), fun e => by omega⟩
 | 10, _ => exact ⟨fun l => absurd (l 1) (by decide), fun e => by omega⟩
 | 11, _ => exact ⟨fun l => absurd (l 1) (by decide), fun e => by omega⟩
 | n + 12, h => omega
theorem tref_nb {c : Nat} (hc : c < 3) : Comp tref c ((c + 1) % 3) := by
 have key : ∀ c, c < 3 → ∃ t, t < 12 ∧ t / 4 = c ∧ tref.m t / 4 = (c + 1) % 3 := by
  intro c hc
  match c, hc with
  | 0, _ => exact ⟨1, by decide, by decide, by decide⟩
  | 1, _ => exact ⟨5, by decide, by decide, by decide⟩
  | 2, _ => exact ⟨9, by decide, by decide, by decide⟩
 obtain ⟨t, h1, h2, h3⟩ := key c hc
 have h := (con_comp tref_wf (g := t) (h := tref.m t) (by rw [tref_n]; omega) (tref_wf.lt t (by rw [tref_n]; omega))).1 (Con.right Con.refl)
 rw [h2, h3] at h
 exact h
theorem tref_con {a b : Nat} (ha : a < 3) (hb : b < 3) : Comp tref a b := by
 have s : ∀ c, c < 3 → Comp tref c ((c + 1) % 3) := fun c hc => tref_nb hc
 have h01 : Comp tref 0 1 := s 0 (by omega)
 have h12 : Comp tref 1 2 := s 1 (by omega)
 have h20 : Comp tref 2 0 := s 2 (by omega)
 match a, b, ha, hb with
 | 0, 0, _, _ => exact h01.trans (h12.trans h20)
 | 0, 1, _, _ => exact h01
 | 0, 2, _, _ => exact h01.trans h12
 | 1, 0, _, _ => exact h12.trans h20
 | 1, 1, _, _ => exact h12.trans (h20.trans h01)
 | 1, 2, _, _ => exact h12
 | 2, 0, _, _ => exact h20
 | 2, 1, _, _ => exact h20.trans h01
 | 2, 2, _, _ => exact h20.trans (h01.trans h12)
theorem cnt_iff {p q : Nat → Prop} : ∀ n, (∀ h, h < n → (p h ↔ q h)) → cnt p n = cnt q n
 | 0, _ => rfl
 | n + 1, h => by
   have ih := cnt_iff (p := p) (q := q) n (fun k hk => h k (by omega))
   have e := h n (by omega)
   unfold cnt
   rw [ih]
   by_cases hq : q n
   ·rw [if_pos hq, if_pos (e.2 hq)]
   ·rw [if_neg hq, if_neg (fun hp => hq (e.1 hp))]
theorem tref_ok : Valid tref := by
 refine ⟨tref_wf, fun c hc => ?_⟩
 have hc3 : c < 3 := hc
 have e1 : cnt (fun h => Least (nx tref) h ∧ Comp tref c (h / 4)) (4 * tref.n) = cnt (fun h => h = 0 ∨ h = 1 ∨ h = 2 ∨ h = 3 ∨ h = 5) 12 :=
  cnt_iff 12 (fun h hh => ⟨fun e => (tref_least h hh).1 e.1, fun e => ⟨(tref_least h hh).2 e, tref_con hc3 (by omega)⟩⟩)
 have e2 : cnt (fun b => Comp tref c b) tref.n = cnt (fun _ => True) 3 := cnt_iff 3 (fun b hb => ⟨fun _ => trivial, fun _ => tref_con hc3 hb⟩)
 rw [e1, e2]
 simp [cnt]
end Go.Proofs.YtcaoblilkgajoaaDoor.Pl
end
section
namespace Go.Proofs.YtcaoblilkgajoaaDoor
open Go Go.RowKit
attribute [local go_sem ↓] Go.wp_at_zero Go.wp_at_succ
theorem two_rowsT (W : World) : let V := (W.alloc (.cells #[.int .i64 1, .int .i64 1, .int .i64 1] 3)).alloc (.cells #[.int .i64 9, .int .i64 4, .int .i64 7, .int .i64 10, .int .i64 1, .int .i64 8, .int .i64 11, .int .i64 2, .int .i64 5, .int .i64 0, .int .i64 3, .int .i64 6] 3); Row V W.heap.size 3 [.int .i64 1, .int .i64 1, .int .i64 1] ∧ Row V (W.heap.size + 1) 3 [.int .i64 9, .int .i64 4, .int .i64 7, .int .i64 10, .int .i64 1, .int .i64 8, .int .i64 11, .int .i64 2, .int .i64 5, .int .i64 0, .int .i64 3, .int .i64 6] := by
 refine ⟨(row_at (vs := [.int .i64 1, .int .i64 1, .int .i64 1]) rfl).alloc _, row_at (vs := [.int .i64 9, .int .i64 4, .int .i64 7, .int .i64 10, .int .i64 1, .int .i64 8, .int .i64 11, .int .i64 2, .int .i64 5, .int .i64 0, .int .i64 3, .int .i64 6]) (by simp)⟩
def TrefPost (w : World) (e : Ending) (w' : World) : Prop :=
 ∃ (A B : Option Addr) (c d : Nat), e = .returned (.agg #[.slice A Pl.tref.n c, .slice B 12 d, .int .i64 (Pl.tref.lp : Int)]) ∧ DgAt w' A B Pl.tref ∧ Below w.heap.size w w'
set_option maxRecDepth 100000 in
set_option maxHeartbeats 2000000 in
theorem trefoil_any (w : World) : Calls Tryd.prog 35 #[] w (TrefPost w) := by
 have R0 := hide (row_at (W := w) (g := w.heap.size) (t := 28) (vs := [.slice none 0 0, .slice none 0 0, .int .i64 0]) rfl)
 obtain ⟨d0, d1, d2, d3⟩ := box3 R0.out
 go_enter Tryd.func35, Tryd.ntmps35
 go_wp2
 obtain ⟨V, hV⟩ : ∃ V, V = w.alloc (.cells #[.slice (some ⟨w.heap.size + 1, 0, none⟩) 3 3, .slice (some ⟨w.heap.size + 1 + 1, 0, none⟩) 12 12, .int .i64 0] 28) := ⟨_, rfl⟩
 have hs : V.heap.size = w.heap.size + 1 := by rw [hV]; simp
 have hB : Below w.heap.size w V := by rw [hV]; exact (Below.refl _ _).alloc (Nat.le_refl _) _
 have hR : Row V w.heap.size 28 [.slice (some ⟨w.heap.size + 1, 0, none⟩) 3 3, .slice (some ⟨w.heap.size + 1 + 1, 0, none⟩) 12 12, .int .i64 0] := by rw [hV]; exact row_at rfl
 obtain ⟨h1, h2⟩ := two_rowsT V
 rw [hs] at h1 h2
 rw [← hV]
 obtain ⟨t0, t1, t2, _⟩ := box3 ((hR.alloc (.cells #[.int .i64 1, .int .i64 1, .int .i64 1] 3)).alloc (.cells #[.int .i64 9, .int .i64 4, .int .i64 7, .int .i64 10, .int .i64 1, .int .i64 8, .int .i64 11, .int .i64 2, .int .i64 5, .int .i64 0, .int .i64 3, .int .i64 6] 3))
 refine bodyPost_ret (v := .agg #[.slice (some ⟨w.heap.size + 1, 0, none⟩) 3 3, .slice (some ⟨w.heap.size + 1 + 1, 0, none⟩) 12 12, .int .i64 0]) (by simp [results, Tryd.results35, go_sem, t0, t1, t2]) rfl ?_
 refine ⟨some ⟨w.heap.size + 1, 0, none⟩, some ⟨w.heap.size + 1 + 1, 0, none⟩, 3, 12, rfl, ⟨?_, ?_⟩, (hB.alloc hB.size _).alloc (by simp; have := hB.size; omega) _⟩
 ·exact IRow.ints (zs := [1, 1, 1]) h1
 ·exact IRow.ints (zs := [9, 4, 7, 10, 1, 8, 11, 2, 5, 0, 3, 6]) h2
theorem parse_eg : parseR [50, 58, 32, 49, 32, 49, 32, 49] = some (2, [1, 1, 1]) := by decide +kernel
theorem bv_eg : Pl.BV 2 [1, 1, 1] := ⟨by decide, by decide, by decide, by decide⟩
theorem bv_eg2 : Pl.BV 3 [1, 2] := ⟨by decide, by decide, by decide, by decide⟩
theorem pm_eg : Pl.pmR 3 [1, 2] = [2, 0, 1] := by decide
set_option maxRecDepth 100000 in
set_option maxHeartbeats 4000000 in
theorem awake33 (w : World) (hg : GV w) (hw : 0 < w.heap.size) : Calls Tryd.prog 10 #[] w fun e w' => e = .returned (.bool true) ∧ Below w.heap.size w w' := by
 have HG := hide hg
 clear hg
 go_enter Tryd.func10, Tryd.ntmps10
 go_wp2_with fail
 refine (parse_any ⟨#[50, 58, 32, 49, 32, 49, 32, 49]⟩ (by decide) _ HG.out hw).mono ?_
 rintro e w1 ⟨_, hp, hb1⟩
 obtain ⟨A1, c1, rfl, hI1⟩ := (hp 2 [1, 1, 1] parse_eg).2 bv_eg
 have HI1 := hide hI1
 have B1 := hide hb1
 clear hp hI1 hb1
 have X1 := hide (row_at (W := w1) (g := w1.heap.size) (t := 24) (vs := [.int .i64 2, .slice A1 3 c1]) rfl)
 have C1' := hide (show Below w1.heap.size w1 (w1.alloc (.cells #[.int .i64 2, .slice A1 3 c1] 24)) from (Below.refl _ _).alloc (Nat.le_refl _) _)
 obtain ⟨d0, d1, d2⟩ := box2b X1.out
 go_wp2_with fail
 refine (closure_any 2 [1, 1, 1] A1 3 c1 _ (HI1.out.keep C1'.out) (by omega)).mono ?_
 rintro e w2 ⟨_, hp, hb2⟩
 obtain ⟨S2, M2, c2, rfl, hD2⟩ := hp bv_eg
 rw [show (2 : Int).toNat = 2 from rfl, Pl.tref_is] at hD2 ⊢
 have B2 := hide (B1.out.trans ((C1'.out.trans (hb2.mono C1'.out.size)).mono B1.out.size))
 have D2 := hide hD2
 clear hp hD2 hb2 d0 d1 d2 X1 C1' HI1
 go_wp2_with fail
 obtain ⟨V3, hV3⟩ : ∃ V, V = (w2.alloc (.cells #[.slice S2 3 c2, .slice M2 12 12, .int .i64 (Pl.tref.lp : Int)] 28)).alloc (.cells #[.int .i64 1, .int .i64 2] 3) := ⟨_, rfl⟩
 have X3 := hide (show Row V3 w2.heap.size 28 [.slice S2 3 c2, .slice M2 12 12, .int .i64 (Pl.tref.lp : Int)] by rw [hV3]; exact (row_at rfl).alloc _)
 have hI3r := hide (show IntsAt V3 (some ⟨w2.heap.size + 1, 0, none⟩) 2 [1, 2] by
  rw [hV3]
  exact IRow.ints (zs := [1, 2]) (row_at (vs := [.int .i64 1, .int .i64 2]) (by simp)))
 have C3 := hide (show Below w2.heap.size w2 V3 by rw [hV3]; exact ((Below.refl _ _).alloc (Nat.le_refl _) _).alloc (by simp) _)
 rw [← hV3]
 clear hV3
 refine (perm_any 3 [1, 2] (some ⟨w2.heap.size + 1, 0, none⟩) 2 2 _ hI3r.out (by unfold maxLen; omega)).mono ?_
 rintro e w4 ⟨_, hp, hb4⟩
 obtain ⟨g, hg, rfl, hr⟩ := hp bv_eg2
 rw [show (3 : Int).toNat = 3 from rfl] at hr ⊢
 rw [pm_eg] at hr
 have X4 := hide (X3.out.below hb4)
 have hP4r := hide hr
 have B4 := hide (B2.out.trans ((C3.out.trans (hb4.mono C3.out.size)).mono B2.out.size))
 have D4 := hide (D2.out.keep (C3.out.trans (hb4.mono C3.out.size)))
 clear hp hg hr hb4 X3 hI3r C3 B2 D2
 have hXDr := hide (X4.out.below (Below.refl w4.heap.size w4).drew)
 have hPDr := hide (show IRow w4.drew g (nats [2, 0, 1]) from Row.below hP4r.out (Below.refl w4.heap.size w4).drew)
 have hBDr := hide B4.out.drew
 have hDDr := hide (D4.out.keep (Below.refl w4.heap.size w4).drew)
 have q0 := IRow.cell hP4r.out (i := 0) (by decide)
 have q1 := IRow.cell hP4r.out (i := 1) (by decide)
 have q2 := IRow.cell hP4r.out (i := 2) (by decide)
 rw [show Pl.pv (nats [2, 0, 1]) 0 = 2 from rfl] at q0
 rw [show Pl.pv (nats [2, 0, 1]) 1 = 0 from rfl] at q1
 rw [show Pl.pv (nats [2, 0, 1]) 2 = 1 from rfl] at q2
 obtain ⟨d0, d1, d2, d3⟩ := box3 X4.out
 have HV := hide Pl.tref_ok
 have HVB := hide (show Pl.vb (∃ σ, Pl.Iso Pl.tref Pl.tref σ) = true from Pl.vb_true ⟨_, Pl.Iso.refl Pl.tref⟩)
 go_upto_region 4 with fail
 go_region_held3 (fun w' => w'.cell? ⟨w2.heap.size, 0, none⟩ = some (.slice S2 3 c2) ∧ w'.cell? ⟨w2.heap.size, 1, none⟩ = some (.slice M2 12 12) ∧ w'.cell? ⟨w2.heap.size, 2, none⟩ = some (.int .i64 (Pl.tref.lp : Int)) ∧ w'.cell? ⟨g, 0, none⟩ = some (.int .i64 2) ∧ w'.cell? ⟨g, 1, none⟩ = some (.int .i64 0) ∧ w'.cell? ⟨g, 2, none⟩ = some (.int .i64 1))
  (first | go_keep | assumption | (exact ⟨k0, k1, k2, p0, p1, p2⟩))
  (first
  | (go_at_call 17
     have hx := hb5
     refine Calls.mono (same_yes Pl.tref Pl.tref HV.out HV.out (by decide) (by decide) S2 M2 A5 B5 c2 12 12 c5 e5 12 _ rfl (hDDr.out.keep hx) rfl hD5) ?_
     rintro e w6 ⟨rfl, hb6⟩
     rw [HVB.out]
     obtain ⟨k0, k1, k2, k3⟩ := box3 ((hXDr.out.below hx).below hb6)
     have hP6 : IRow w6 g (nats [2, 0, 1]) := Row.below (Row.below hPDr.out hx) hb6
     have p0 := IRow.cell hP6 (i := 0) (by decide)
     have p1 := IRow.cell hP6 (i := 1) (by decide)
     have p2 := IRow.cell hP6 (i := 2) (by decide)
     rw [show Pl.pv (nats [2, 0, 1]) 0 = 2 from rfl] at p0
     rw [show Pl.pv (nats [2, 0, 1]) 1 = 0 from rfl] at p1
     rw [show Pl.pv (nats [2, 0, 1]) 2 = 1 from rfl] at p2
     have HF := hide (hBDr.out.trans ((hx.trans (hb6.mono hx.size)).mono hBDr.out.size)))
  | (go_at_call 35
     refine Calls.mono (trefoil_any _) ?_
     rintro e w5 ⟨A5, B5, c5, e5, rfl, hD5, hb5⟩
     obtain ⟨k0, k1, k2, k3⟩ := box3 (hXDr.out.below hb5)
     have hP5 : IRow w5 g (nats [2, 0, 1]) := Row.below hPDr.out hb5
     have p0 := IRow.cell hP5 (i := 0) (by decide)
     have p1 := IRow.cell hP5 (i := 1) (by decide)
     have p2 := IRow.cell hP5 (i := 2) (by decide)
     rw [show Pl.pv (nats [2, 0, 1]) 0 = 2 from rfl] at p0
     rw [show Pl.pv (nats [2, 0, 1]) 1 = 0 from rfl] at p1
     rw [show Pl.pv (nats [2, 0, 1]) 2 = 1 from rfl] at p2))
 all_goals (go_wp2_with fail)
 all_goals (go_ret; exact ⟨rfl, HF.out⟩)
end Go.Proofs.YtcaoblilkgajoaaDoor
end
section
namespace Go.Proofs.YtcaoblilkgajoaaDoor
open Go Go.RowKit
theorem star_err : "*" ++ "errors.errorString" = "*errors.errorString" := by decide
theorem row_err (u : TypeId) (h : Tryd.prog.typeName? 3 u = some "*errors.errorString") : u = 142 :=
 typeName_ptr_named (nm := "errors.errorString") (by rw [star_err]; kernel_rfl) (by kernel_rfl) (by decide) u (by rw [star_err]; exact h)
theorem gv_of {W : World} {t1 t2 : String × DataW Unit} (hm : ∃ m, W.cell? ⟨0, 0, none⟩ = some (.int .i64 m))
 (hL : laidMet Tryd.prog [t1, t2, ("internal/strconv.uint64pow10", Rows.laid_internal_strconv_uint64pow10), ("strconv.ErrRange", Rows.laid_strconv_ErrRange), ("strconv.ErrSyntax", Rows.laid_strconv_ErrSyntax)] W) : GV W := by
 have h3 := hL.tail.tail
 have h4 := h3.tail
 have h5 := h4.tail
 refine ⟨hm, ?_, ?_, ?_⟩
 ·exact Lib.tabIs_of_head (g := 3) (t := 137) (e := 120) (n := 20) (by kernel_rfl) (by kernel_rfl) (by kernel_rfl) (by kernel_rfl) (by kernel_rfl) (by kernel_rfl) (rest := _) h3
 ·obtain ⟨a1, s1, hv1, -, -, -⟩ := laid_sentinel h5 (g := 1) (ti := 92) (tp := 142) (te := 144) (ts := 9) (by kernel_rfl) (by kernel_rfl) Tryd.underlying92 row_err Tryd.underlying142 Tryd.underlying144 rfl rfl Tryd.underlying9 (by kernel_rfl) (by kernel_rfl)
  exact ⟨_, (by have h0 := World.var?_cell (P := Tryd.prog) (g := 1) (by kernel_rfl) hv1 0; simpa using h0), .inr ⟨_, _, rfl⟩⟩
 ·obtain ⟨a1, s1, hv1, -, -, -⟩ := laid_sentinel h4 (g := 2) (ti := 92) (tp := 142) (te := 144) (ts := 9) (by kernel_rfl) (by kernel_rfl) Tryd.underlying92 row_err Tryd.underlying142 Tryd.underlying144 rfl rfl Tryd.underlying9 (by kernel_rfl) (by kernel_rfl)
  exact ⟨_, (by have h0 := World.var?_cell (P := Tryd.prog) (g := 2) (by kernel_rfl) hv1 0; simpa using h0), .inr ⟨_, _, rfl⟩⟩
end Go.Proofs.YtcaoblilkgajoaaDoor
end
section
namespace Go.Proofs.YtcaoblilkgajoaaDoor
open Go Go.RowKit
attribute [local go_sem ↓] Go.wp_at_zero Go.wp_at_succ
theorem getD_eqL {xs ys : List Int} (hl : xs.length = ys.length) (h : ∀ j, j < xs.length → xs.getD j 0 = ys.getD j 0) : xs = ys := by
 refine List.ext_getElem hl fun j h1 h2 => ?_
 have := h j h1
 rw [List.getD_eq_getElem?_getD, List.getD_eq_getElem?_getD, List.getElem?_eq_getElem h1, List.getElem?_eq_getElem h2] at this
 exact this
set_option maxRecDepth 100000 in
set_option maxHeartbeats 2000000 in
theorem rints_any (xs ys : List Int) (A B : Option Addr) (n m ca cb : Nat) (w : World) (hx : IntsAt w A n xs) (hy : IntsAt w B m ys) (hn : n ≤ 100000) (hm : m ≤ 100000) :
 Calls Tryd.prog 27 #[.slice A n ca, .slice B m cb] w fun e w' => e = .returned (.bool (Pl.vb (xs = ys))) ∧ Below w.heap.size w w' := by
 have HX := hide hx
 have HY := hide hy
 have LX := hide hx.len
 have LY := hide hy.len
 clear hx hy
 by_cases hnm : n = m
 ·subst hnm
  go_enter Tryd.func27, Tryd.ntmps27
  go_wp2
  go_loopg [5] n (fun g i wx => ∃ k : Nat, k + g = n ∧ i = .int .i64 (k : Int) ∧ (∀ j, j < k → xs.getD j 0 = ys.getD j 0) ∧ Below w.heap.size w wx)
  case atStart => exact ⟨0, by omega, rfl, fun j hj => by omega, Below.refl _ _⟩
  case round =>
   obtain ⟨k, hkg, rfl, hk, hb⟩ := hrel
   have HB := hide hb
   have HKG := hide hkg
   have HK := hide hk
   clear hb hk
   by_cases hk : k < n
   ·have hki : (k : Int) < (n : Int) := by omega
    obtain ⟨b, o, rfl, c1⟩ := (HX.out.keep HB.out).at_ hk
    obtain ⟨b2, o2, rfl, c2⟩ := (HY.out.keep HB.out).at_ hk
    have k0 : (0 : Int) ≤ (k : Int) := by omega
    obtain ⟨u, hu⟩ : ∃ u, u = xs.getD k 0 := ⟨_, rfl⟩
    obtain ⟨v, hv⟩ : ∃ v, v = ys.getD k 0 := ⟨_, rfl⟩
    rw [← hu] at c1
    rw [← hv] at c2
    have HU := hide hu
    have HV := hide hv
    clear hu hv hkg
    by_cases huv : u = v
    ·subst huv
     go_upto_region 6 with fail
     go_quiet (fail)
     go_wp2
     go_roundg (gk - 1)
     case measure => have := HKG.out; omega
     case rel => exact ⟨k + 1, by have := HKG.out; omega, by go_num, fun j hj => by
      rcases Nat.lt_or_ge j k with h | h
      ·exact HK.out j h
      ·rw [show j = k by omega, ← HU.out, ← HV.out], below_drewN HB.out _⟩
    ·have HF := hide (show Pl.vb (xs = ys) = false from Pl.vb_false (fun e => huv (by rw [HU.out, HV.out, e])))
     have hub : (u != v) = true := by rw [bne_iff_ne]; exact huv
     go_upto_region 6 with fail
     go_quiet (fail)
     go_wp2
     go_ret
     exact ⟨by rw [HF.out]; rfl, below_drewN HB.out _⟩
   ·have hki : ¬ ((k : Int) < (n : Int)) := by omega
    have HF := hide (show Pl.vb (xs = ys) = true from Pl.vb_true (getD_eqL (by rw [LX.out, LY.out]) (fun j hj => HK.out j (by have := LX.out; omega))))
    clear hkg
    go_wp2
    go_ret
    exact ⟨by rw [HF.out]; rfl, HB.out⟩
 ·have HF := hide (show Pl.vb (xs = ys) = false from Pl.vb_false (fun e => hnm (by rw [← LX.out, ← LY.out, e])))
  have hnmi : ¬ ((n : Int) = (m : Int)) := by omega
  go_enter Tryd.func27, Tryd.ntmps27
  go_wp2
  go_ret
  exact ⟨by rw [HF.out]; rfl, Below.refl _ _⟩
end Go.Proofs.YtcaoblilkgajoaaDoor
end
section
namespace Go.Proofs.YtcaoblilkgajoaaDoor
open Go Go.RowKit
attribute [local go_sem ↓] Go.wp_at_zero Go.wp_at_succ
theorem trk_lt {n : Nat} : ∀ (ws : List Int) (p : Nat), (∀ x, x ∈ ws → Pl.LetOk n x) → p < n → Pl.trk p ws < n := by
 intro ws
 induction ws with
 | nil => intro p _ hp; exact hp
 | cons x ws ih =>
   intro p h hp
   show Pl.trk (Pl.tr1 p x) ws < n
   exact ih _ (fun y hy => h y (by simp [hy])) (Pl.tr1_lt (h x (by simp)) hp)
end Go.Proofs.YtcaoblilkgajoaaDoor
end
section
namespace Go.Proofs.YtcaoblilkgajoaaDoor
open Go Go.RowKit
attribute [local go_sem ↓] Go.wp_at_zero Go.wp_at_succ
theorem own_shrink {W : World} {base g n c : Nat} {e : TypeId} {xs : List Value} (h : W.ownsRow base e 1 (.slice (some ⟨g, 0, none⟩) (n + 1) c) (n + 1) xs) : W.ownsRow base e 1 (.slice (some ⟨g, 0, none⟩) n c) n xs.dropLast := by
 have hl : xs.length = n + 1 := by simpa using h.1
 refine ⟨by rw [List.length_dropLast]; omega, ?_⟩
 rcases h.2 with ⟨h1, _⟩ | ⟨g', cap, cur, h1, h2, h3, h4, h5, h6, h7⟩
 ·cases h1
 ·injection h1 with e1 e2 e3
  injection e1 with e1
  injection e1 with e1
  subst e1 e3
  refine .inr ⟨g, c, cur, rfl, h2, h3, by omega, h5, h6, ?_⟩
  rw [← h7, Nat.mul_one, Nat.mul_one, List.dropLast_eq_take, List.take_take, List.length_take]
  congr 1
  have : cur.toList.length = c * 1 := by simpa using h6
  omega
theorem cut_own (g n c : Nat) (hn : n ≤ c) (hc : c ≤ maxLen) (W : World) : (Instr.slice 22 (.slice (some ⟨g, 0, none⟩) (n + 1) c) none (some (.int .i64 (n : Int))) none).run Tryd.prog W = .ok (.slice (some ⟨g, 0, none⟩) n c) W := by
 unfold maxLen at hc
 rw [run_slice_h W 22 (some ⟨g, 0, none⟩) (n + 1) c elemI .i64 (n : Int) (by omega) (by omega), sizeI]
 by_cases h0 : c = 0
 ·simp [sliced, h0]
 ·simp [sliced, h0, Addr.add]
theorem own_capI {W : World} {base n c : Nat} {e : TypeId} {A : Option Addr} {xs : List Value} (h : W.ownsRow base e 1 (.slice A n c) n xs) (hn : 0 < n) : n ≤ c ∧ c ≤ maxLen := by
 rcases h.2 with ⟨h1, h2⟩ | ⟨g', cap, cur, h1, h2, h3, h4, h5, h6, h7⟩
 ·omega
 ·injection h1 with e1 e2 e3
  subst e3
  exact ⟨h4, h5⟩
theorem snocI {l : List Int} (h : l ≠ []) : ∃ l' y, l = l' ++ [y] := ⟨l.dropLast, l.getLast h, (List.dropLast_concat_getLast h).symm⟩
def ReducePost (s : Int) (ws : List Int) (w : World) (e : Ending) (w' : World) : Prop :=
 (¬ Pl.BV s ws → e = .returned (.agg #[.int .i64 0, .slice none 0 0])) ∧ (Pl.BV s ws → ∃ (A : Option Addr) (c : Nat), e = .returned (.agg #[.int .i64 s, .slice A (Pl.rdW ws).length c]) ∧ RowT w' 3 A (Pl.rdW ws).length ((Pl.rdW ws).map (.int .i64))) ∧ Below w.heap.size w w'
set_option maxRecDepth 100000 in
set_option maxHeartbeats 4000000 in
theorem reduce_any (s : Int) (ws : List Int) (A : Option Addr) (n c : Nat) (w : World) (hw : IntsAt w A n ws) (hn : n ≤ maxLen) :
 Calls Tryd.prog 25 #[.agg #[.int .i64 s, .slice A n c]] w (ReducePost s ws w) := by
 have HL := hide hw.len
 have HW := hide hw
 clear hw
 have X0 := hide ((row_at (W := w) (g := w.heap.size) (t := 24) (vs := [.int .i64 s, .slice A n c]) rfl).below ((Below.refl _ _).alloc (Nat.le_refl _) (.cells #[.int .i64 0, .slice none 0 0] 24)))
 have R0 := hide (row_at (W := w.alloc (.cells #[.int .i64 s, .slice A n c] 24)) (g := w.heap.size + 1) (t := 24) (vs := [.int .i64 0, .slice none 0 0]) (by simp))
 have B0 := hide (show Below w.heap.size w ((w.alloc (.cells #[.int .i64 s, .slice A n c] 24)).alloc (.cells #[.int .i64 0, .slice none 0 0] 24)) from ((Below.refl _ _).alloc (Nat.le_refl _) _).alloc (by simp) _)
 obtain ⟨d0, d1, d2⟩ := box2b X0.out
 go_enter Tryd.func25, Tryd.ntmps25
 go_wp2_with fail
 refine (bvalid_any s ws A n c _ (HW.out.keep B0.out) hn).mono ?_
 rintro e w1 ⟨rfl, hb1⟩
 have B1 := hide (B0.out.trans (hb1.mono B0.out.size))
 have X1 := hide (X0.out.below hb1)
 have R1 := hide (R0.out.below hb1)
 clear X0 R0 B0 hb1 d0 d1 d2
 obtain ⟨d0, d1, d2⟩ := box2b X1.out
 have hwb : w.heap.size + 1 < w1.heap.size := R1.out.lt
 by_cases hv : Pl.BV s ws
 ·rw [Pl.vb_true hv]
  have HV := hide hv
  have hn2 : n ≤ 200 := by rw [← HL.out]; exact hv.2.2.1
  have HBD := hide (show ∀ x, x ∈ ws → -10 ≤ x ∧ x ≤ 10 from fun x hx => by have h1 := hv.2.2.2 x hx; have h2 := hv.2.1; omega)
  clear hv
  go_wp2_with fail
  go_loopg [3, 5, 6, 14] n (fun g s3 s5 s6 i wx => ∃ k : Nat, k + g = n ∧ i = .int .i64 (k : Int) ∧ wx.ownsRow w1.heap.size 3 1 s3 (Pl.rdW (ws.take k)).length ((Pl.rdW (ws.take k)).map (.int .i64)) ∧ Below w1.heap.size w1 wx)
  case atStart => exact ⟨0, by omega, rfl, World.ownsRow_nil _ _ _ _, Below.refl _ _⟩
  case round =>
   obtain ⟨k, hkg, rfl, ho, hb⟩ := hrel
   have HKG := hide hkg
   have OW := hide ho
   have HB := hide hb
   have hkn : k ≤ n := by omega
   clear hkg ho hb
   by_cases hk : k < n
   ·have hki : (k : Int) < (n : Int) := by omega
    have k0 : (0 : Int) ≤ (k : Int) := by omega
    obtain ⟨b, o, rfl, x1⟩ := (HW.out.keep (B1.out.trans (HB.out.mono B1.out.size))).at_ hk
    obtain ⟨x, hxm, hx, hxt⟩ := letter_at HL.out hk
    rw [hx] at x1
    have HXT := hide (show Pl.rdW (ws.take (k + 1)) = Pl.rdP (Pl.rdW (ws.take k)) x by rw [hxt, Pl.rdW_snoc])
    have hxb := HBD.out x hxm
    obtain ⟨hxb1, hxb2⟩ := hxb
    obtain ⟨st, hst⟩ : ∃ st, st = Pl.rdW (ws.take k) := ⟨_, rfl⟩
    have hsl : st.length ≤ 200 := by rw [hst]; have := Pl.rdW_len (ws.take k); rw [List.length_take] at this; omega
    rw [← hst] at OW HXT
    clear hx hxt hxm hst
    obtain ⟨A4, c4, rfl⟩ := owns_slice OW.out
    obtain ⟨i0, hi0, hz0, hz1, hz2⟩ := info_parts intInfo
    have OA := hide (own_below OW.out ((Below.refl wr.heap.size wr).alloc (Nat.le_refl _) (.cells #[.int .i64 x] 3)))
    have hbig : w1.heap.size ≤ wr.heap.size := HB.out.size
    by_cases hs0 : st = []
    ·subst hs0
     have HR := hide (show Pl.rdP [] x = [x] by simp [Pl.rdP])
     go_wp2_with (at_builtin; refine wpList_append_lies _ (by rfl) _ _ 22 (by rfl) w1.heap.size 3 i0 (.int .i64 0) 1 8 Tryd.underlying22 hi0 hz0 hz1 hz2 rfl (by omega) _ 0 _ (by rfl) OA.out ⟨wr.heap.size, 0, none⟩ 1 1 [.int .i64 x] (by rfl) (by rfl) (one_news _ _) (by simp [Value.oneCell']) (by omega) (by unfold maxLen; omega) (by omega) (by simp; omega) (wr.heap.size + 1) (by simp) ?_; intro g3 c3 w3 own3 grow3 at3 lt3; have OWN3 := hide own3; have GR3 := hide grow3; clear own3 grow3 at3)
     go_roundg (gk - 1)
     case measure => have := HKG.out; omega
     case rel => exact ⟨k + 1, by have := HKG.out; omega, by go_num, by rw [HXT.out, HR.out]; exact OWN3.out, (HB.out.alloc hbig _).grown GR3.out (by simp; omega) (fun j hj => (OA.out.lt j hj).1)⟩
    ·obtain ⟨l, y, rfl⟩ := snocI hs0
     obtain ⟨m, hm⟩ : ∃ m, m = l.length := ⟨_, rfl⟩
     have hlen : (l ++ [y]).length = m + 1 := by rw [hm]; simp
     rw [hlen] at OW OA hsl ⊢
     have HM := hide hm
     obtain ⟨hc1, hc2⟩ := own_capI OW.out (Nat.succ_pos m)
     have hc2' := hc2
     unfold maxLen at hc2'
     obtain ⟨g, cap, hA, hcap, hgl⟩ := World.ownsRow.form OW.out (Nat.succ_pos m)
     injection hA with hA _ hcc
     subst hA
     subst hcc
     have y1 : wr.cell? ⟨g, m, none⟩ = some (.int .i64 y) := by
      rw [World.ownsRow.cellAt OW.out _ (by omega), List.map_append, List.getElem?_append_right (by rw [List.length_map, hm]; exact Nat.le_refl _), List.length_map, hm, Nat.sub_self]
      rfl
     have i1 : (0 : Int) ≤ (m : Int) := by omega
     have i2 : (m : Int) < (m : Int) + 1 := by omega
     have i3 : (m : Int) + 1 - 1 = (m : Int) := by omega
     clear hs0 hm hlen
     by_cases hyx : y = -x
     ·have HR := hide (show Pl.rdP (l ++ [y]) x = l by unfold Pl.rdP; rw [List.getLast?_concat, if_pos (by rw [hyx]), List.dropLast_concat])
      have hcut := cut_own g m c4 (by omega) hc2
      have OS := hide (show wr.ownsRow w1.heap.size 3 1 (.slice (some ⟨g, 0, none⟩) m c4) l.length (l.map (.int .i64)) from by
       have h := own_shrink OW.out
       rw [List.map_append, List.map_singleton, List.dropLast_concat] at h
       rw [← HM.out]
       exact h)
      have hyb : (y == -x) = true := by rw [beq_iff_eq]; exact hyx
      go_wp2
      go_roundg (gk - 1)
      case measure => have := HKG.out; omega
      case rel => exact ⟨k + 1, by have := HKG.out; omega, by go_num, by rw [HXT.out, HR.out]; exact OS.out, HB.out⟩
     ·have HR := hide (show Pl.rdP (l ++ [y]) x = l ++ [y] ++ [x] by unfold Pl.rdP; rw [List.getLast?_concat, if_neg (fun e => hyx (by injection e))])
      have hyb : (y == -x) = false := by rw [beq_eq_false_iff_ne]; exact hyx
      have HLE := hide (show (l ++ [y] ++ [x]).length = m + 1 + 1 by rw [HM.out]; simp)
      go_wp2_with (at_builtin; refine wpList_append_lies _ (by rfl) _ _ 22 (by rfl) w1.heap.size 3 i0 (.int .i64 0) 1 8 Tryd.underlying22 hi0 hz0 hz1 hz2 rfl (by omega) _ (m + 1) _ (by rfl) OA.out ⟨wr.heap.size, 0, none⟩ 1 1 [.int .i64 x] (by rfl) (by rfl) (one_news _ _) (by simp [Value.oneCell']) (by omega) (by unfold maxLen; omega) (by omega) (by simp; omega) (wr.heap.size + 1) (by simp) ?_; intro g3 c3 w3 own3 grow3 at3 lt3; have OWN3 := hide own3; have GR3 := hide grow3; clear own3 grow3 at3)
      go_roundg (gk - 1)
      case measure => have := HKG.out; omega
      case rel => exact ⟨k + 1, by have := HKG.out; omega, by go_num, by
       rw [HXT.out, HR.out, HLE.out, List.map_append]
       exact OWN3.out, (HB.out.alloc hbig _).grown GR3.out (by simp; omega) (fun j hj => (OA.out.lt j hj).1)⟩
   ·have hki : ¬ ((k : Int) < (n : Int)) := by omega
    have HT := hide (show ws.take k = ws from List.take_of_length_le (by have := HL.out; omega))
    rw [HT.out] at OW
    obtain ⟨A4, c4, rfl⟩ := owns_slice OW.out
    have X2 := hide (X1.out.below HB.out)
    have R2 := hide (R1.out.below HB.out)
    have BW := hide (B1.out.trans (HB.out.mono B1.out.size))
    clear d0 d1 d2
    obtain ⟨d0, d1, d2⟩ := box2b X2.out
    obtain ⟨r0, r1, r2⟩ := box2b R2.out
    obtain ⟨t0, t1, t2⟩ := box2b ((R2.out.set 0 (.int .i64 s)).set 1 (.slice A4 (Pl.rdW ws).length c4))
    go_wp2
    refine bodyPost_ret (v := .agg #[.int .i64 s, .slice A4 (Pl.rdW ws).length c4]) (by simp [results, Tryd.results25, go_sem, t0, t1]) rfl ?_
    exact ⟨fun h => absurd HV.out h, fun _ => ⟨A4, c4, rfl, (own_rowT (ownsRow_setCell_below (ownsRow_setCell_below OW.out (by show w.heap.size + 1 < w1.heap.size; omega) _) (by show w.heap.size + 1 < w1.heap.size; omega) _))⟩, (BW.out.setCell (by show _ ≤ w.heap.size + 1; omega) _).setCell (by show _ ≤ w.heap.size + 1; omega) _⟩
 ·rw [Pl.vb_false hv]
  have HV := hide hv
  obtain ⟨r0, r1, r2⟩ := box2b R1.out
  obtain ⟨t0, t1, t2⟩ := box2b ((R1.out.set 0 (.int .i64 0)).set 1 (.slice none 0 0))
  clear hv
  go_wp2
  refine bodyPost_ret (v := .agg #[.int .i64 0, .slice none 0 0]) (by simp [results, Tryd.results25, go_sem, t0, t1]) rfl ?_
  exact ⟨fun _ => rfl, fun h => absurd h HV.out, (B1.out.setCell (by show _ ≤ w.heap.size + 1; omega) _).setCell (by show _ ≤ w.heap.size + 1; omega) _⟩
end Go.Proofs.YtcaoblilkgajoaaDoor
end
section
namespace Go.Proofs.YtcaoblilkgajoaaDoor
open Go Go.RowKit
attribute [local go_sem ↓] Go.wp_at_zero Go.wp_at_succ
theorem great33 (s : Int) (A : Option Addr) (n c : Nat) (w : World) (hn : n ≤ maxLen) :
 Calls Tryd.prog 11 #[.agg #[.int .i64 s, .slice A n c]] w fun e w' => e = .returned (.bool (decide (30 < n))) ∧ Below w.heap.size w w' := by
 have X0 := hide (row_at (W := w) (g := w.heap.size) (t := 24) (vs := [.int .i64 s, .slice A n c]) rfl)
 have B0 := hide (show Below w.heap.size w (w.alloc (.cells #[.int .i64 s, .slice A n c] 24)) from (Below.refl _ _).alloc (Nat.le_refl _) _)
 obtain ⟨d0, d1, d2⟩ := box2b X0.out
 unfold maxLen at hn
 by_cases h : 30 < n
 ·have hi : (30 : Int) < (n : Int) := by omega
  go_enter Tryd.func11, Tryd.ntmps11
  go_wp2
  go_ret
  exact ⟨ret_bool (by simp [h]), B0.out⟩
 ·have hi : ¬ ((30 : Int) < (n : Int)) := by omega
  go_enter Tryd.func11, Tryd.ntmps11
  go_wp2
  go_ret
  exact ⟨ret_bool (by simp [h]), B0.out⟩
set_option maxRecDepth 100000 in
set_option maxHeartbeats 2000000 in
theorem bsame_any (s t : Int) (xs ys : List Int) (A B : Option Addr) (n m c d : Nat) (w : World) (hx : IntsAt w A n xs) (hy : IntsAt w B m ys) (hn : n ≤ 100000) (hm : m ≤ 100000) :
 Calls Tryd.prog 19 #[.agg #[.int .i64 s, .slice A n c], .agg #[.int .i64 t, .slice B m d]] w fun e w' => e = .returned (.bool (Pl.vb (s = t ∧ xs = ys))) ∧ Below w.heap.size w w' := by
 have HX := hide hx
 have HY := hide hy
 clear hx hy
 have X1 := hide ((row_at (W := w) (g := w.heap.size) (t := 24) (vs := [.int .i64 s, .slice A n c]) rfl).below ((Below.refl _ _).alloc (Nat.le_refl _) (.cells #[.int .i64 t, .slice B m d] 24)))
 have Y1 := hide (row_at (W := w.alloc (.cells #[.int .i64 s, .slice A n c] 24)) (g := w.heap.size + 1) (t := 24) (vs := [.int .i64 t, .slice B m d]) (by simp))
 have B0 := hide (show Below w.heap.size w ((w.alloc (.cells #[.int .i64 s, .slice A n c] 24)).alloc (.cells #[.int .i64 t, .slice B m d] 24)) from ((Below.refl _ _).alloc (Nat.le_refl _) _).alloc (by simp) _)
 obtain ⟨d0, d1, d2⟩ := box2b X1.out
 obtain ⟨e0, e1, e2⟩ := box2b Y1.out
 by_cases hst : s = t
 ·subst hst
  have HF := hide (show Pl.vb (s = s ∧ xs = ys) = Pl.vb (xs = ys) by rw [Bool.eq_iff_iff, Pl.vb_iff, Pl.vb_iff]; simp)
  go_enter Tryd.func19, Tryd.ntmps19
  go_wp2_with fail
  refine (rints_any xs ys A B n m c d _ (HX.out.keep B0.out) (HY.out.keep B0.out) hn hm).mono ?_
  rintro e w1 ⟨rfl, hb1⟩
  have B1 := hide (B0.out.trans (hb1.mono B0.out.size))
  go_wp2
  go_ret
  exact ⟨by rw [HF.out]; rfl, B1.out⟩
 ·have HF := hide (show Pl.vb (s = t ∧ xs = ys) = false from Pl.vb_false (fun h => hst h.1))
  have hsb : (s == t) = false := by rw [beq_eq_false_iff_ne]; exact hst
  go_enter Tryd.func19, Tryd.ntmps19
  go_wp2
  go_ret
  exact ⟨by rw [HF.out]; rfl, B0.out⟩
end Go.Proofs.YtcaoblilkgajoaaDoor
end
section
namespace Go.Proofs.YtcaoblilkgajoaaDoor
open Go Go.RowKit Go.Shelf Go.Proofs
attribute [local go_sem] Oper.semAt_some
def bwF (len : Nat) (zs : List Int) (j : Nat) : Nat × Int := (len - 1 - j, zs[len - 1 - j]?.getD 0)
def bwU (len : Nat) (zs : List Int) (k : Nat) : List (Nat × Int) := (List.range k).map (bwF len zs)
theorem bwU_succ (len : Nat) (zs : List Int) (k : Nat) : bwU len zs (k + 1) = bwU len zs k ++ [bwF len zs k] := by simp [bwU, List.range_succ]
theorem bwU_length (len : Nat) (zs : List Int) (k : Nat) : (bwU len zs k).length = k := by simp [bwU]
set_option maxRecDepth 100000 in
set_option maxHeartbeats 1000000 in
theorem back1_nil_in (F : Fence) (n : Nat) (h8 : F.fn 71) (hro : F.round = none) (l bS c : Nat) (A : Option Addr) (J : List (Nat × Int) → World → Prop) (W : World) (hBs : W.cell? ⟨bS, 0, none⟩ = some (.slice A 0 c)) (h0 : J [] W) :
 CallsIn F n Tryd.prog 71 #[.func (.yield l) #[] #[], .pointer (some ⟨bS, 0, none⟩)] W fun e W' => (∃ v, e = .returned v) ∧ J [] W' := by
 refine callsIn_of_wp Tryd.func71 rfl h8 ?_ hro
 simp only [Tryd.ntmps71, List.size_toArray, List.length_cons, List.length_nil, Nat.reduceAdd, Nat.reduceSub, Array.replicate_succ, Array.replicate_zero, List.push_toArray, List.append_toArray, List.nil_append, List.cons_append]
 gi_wp2
 gi_loopw [3] (fun i wr => i = .int .i64 (-1) ∧ J [] wr) (fun _ _ => 0)
 case atStart => exact ⟨rfl, h0⟩
 case round =>
  obtain ⟨rfl, hJs⟩ := hrel
  gi_wp2
  go_end0
  exact ⟨⟨_, rfl⟩, hJs⟩
set_option maxHeartbeats 1000000 in
theorem backward_in (F : Fence) (n : Nat) (h6 : F.fn 55) (hro : F.round = none) (a : Option Addr) (len cap : Nat) (w : World) :
 CallsIn F n Tryd.prog 55 #[.slice a len cap] w fun e w' => e = .returned (.func (.func 71) #[] #[.pointer (some ⟨w.heap.size, 0, none⟩)]) ∧ w' = w.alloc (.cells #[.slice a len cap] 22) := by
 refine callsIn_of_wp Tryd.func55 rfl h6 ?_ hro
 simp only [Tryd.ntmps55, List.size_toArray, List.length_cons, List.length_nil, Nat.reduceAdd, Nat.reduceSub, Array.replicate_succ, Array.replicate_zero, List.push_toArray, List.append_toArray, List.nil_append, List.cons_append]
 gi_wp2
 go_ret
 exact ⟨rfl, rfl⟩
end Go.Proofs.YtcaoblilkgajoaaDoor
end
section
namespace Go.Proofs.YtcaoblilkgajoaaDoor
open Go.ChangeShapes Go.WideShapes Go.ChangeAt Go.RowKit Go.Deep
section
variable {H : Type} {enc : TypeId × Value → H} {P : Program} {w : World} {base : Nat} {spare : Nat → Bool} {held : Bool}
theorem post_of_below {f : Func} {s : ChangeSpec} {apart fresh handsOn again : Bool} {W W' : World} {args : Array Value} {v : Value} {ds gs : List (DataW H)} {before pa pv : List MemPlace}
 (hW : DataW.Whole enc P f.params.toList s.vars apart W args.toList ds gs before)
 (hres : ∀ (b : Nat) (sp : Nat → Bool) (hd : Bool), DataW.TrodAll enc P W' b sp hd f.resultTypes.toList (v.resultList f.resultTypes.size) (s.fn H (ds ++ gs)).results [])
 (hargs : ∀ sp : Nat → Bool, (∀ p ∈ before, sp p.block = true) → DataW.TrodAll enc P W' 0 sp true f.params.toList args.toList (s.fn H (ds ++ gs)).args pa)
 (hvars : ∀ sp : Nat → Bool, (∀ p ∈ before, sp p.block = true) → DataW.TrodVars enc P W' sp s.vars (s.fn H (ds ++ gs)).vars pv)
 (hps : before = pa ++ pv) (hb : Below W.heap.size W W')
 (hok : ∀ (j : Nat) (t : TypeId) (r : Value), f.resultTypes[j]? = some t → (v.resultList f.resultTypes.size)[j]? = some r → Value.okWide P W' .any 0 t r) :
 s.post enc P f apart fresh handsOn again W args v W' := by
 have hlt : ∀ p ∈ before, p.block < W.heap.size := fun p hp => hW.lt p hp
 have hold : ∀ p ∈ before, (fun b => decide (b < W.heap.size)) p.block = true := fun p hp => by simpa using hlt p hp
 refine ⟨ds, gs, before, [], pa, pv, hW, hres _ _ _, hargs _ hold, hvars _ hold, World.keptBut_mono (fun p hp => ⟨hp, ?_⟩) (hb.frame (· ∈ before)), fun _ => ?_⟩
 ·rw [hps, List.mem_append] at hp
  exact Or.inr hp
 ·obtain ⟨_, _, _, _, _, hz, hn⟩ := hW
  refine ⟨hok, _, _, ([] ++ pa) ++ pv, ⟨[] ++ pa, pv, trodAll_append (hargs _ (fun _ _ => rfl)) (hres _ _ _), hvars _ (fun _ _ => rfl), rfl, ?_, ?_⟩, ?_⟩
  ·intro b off hp
   have hin : MemPlace.cell b off ∈ before := by rw [hps]; simpa using hp
   rw [hb.frozen (hlt _ hin)]
   exact hz b off hin
  ·intro ha
   have := hn ha
   rw [hps] at this
   simpa using this
  ·intro p hp _
   rw [hps]
   simpa using hp
end
end Go.Proofs.YtcaoblilkgajoaaDoor
end
section
namespace Go.Proofs.YtcaoblilkgajoaaDoor
open Go Go.ChangeShapes Go.WideShapes Go.ChangeAt Go.RowKit Go.Deep
theorem spot_noneM {w : World} {a : Addr} {v : Value} (h : w.cell? a = some v) : a = ⟨a.block, a.off, none⟩ := by
 obtain ⟨b, o, sp⟩ := a
 cases sp with
 | none => rfl
 | some s =>
   unfold World.cell? at h
   simp only at h
   split at h
   ·simp at h
   ·cases h
theorem addr_formM {w : World} {a : Addr} {v : Value} (h : w.cell? (a.add 0) = some v) : ∃ b o, a = ⟨b, o, none⟩ := ⟨_, _, spot_noneM h⟩
section
variable {H : Type} {enc : TypeId × Value → H} {w : World} {base : Nat} {spare : Nat → Bool} {held : Bool} {fuel : Nat}
theorem ints_of_trod {v : Value} {y : DataW H × List MemPlace} (h : DataW.trod enc Tryd.prog w base spare held fuel 22 [v] = some y) : ∃ (A : Option Addr) (n c : Nat) (xs : List Int), v = .slice A n c ∧ n ≤ maxLen ∧ IntsAt w A n xs := by
 rcases open_ints Tryd.underlying22 Tryd.underlying3 (by kernel_rfl) h with ⟨h1, _⟩ | ⟨a, len, cap, zs, h1, _, hl, hm, hsl, _, hc, _⟩
 ·obtain rfl : v = .slice none 0 0 := by simpa using h1
  exact ⟨none, 0, 0, [], rfl, by unfold maxLen; omega, RowAt.nil w⟩
 ·obtain rfl : v = .slice (some a) len cap := by simpa using h1
  have hle : len ≤ zs.length := by rw [hsl]; split <;> omega
  refine ⟨some a, len, cap, zs.take len, rfl, by omega, by simp; omega, fun hn => ?_⟩
  obtain ⟨b, o, rfl⟩ := addr_formM (hc 0 (by omega))
  refine ⟨b, o, rfl, fun j u hu => ?_⟩
  rw [List.getElem?_map] at hu
  obtain ⟨s, hs, rfl⟩ := Option.map_eq_some_iff.1 hu
  have hj : j < len := by
   rcases Nat.lt_or_ge j len with h | h
   ·exact h
   ·rw [List.getElem?_eq_none (by simp; omega)] at hs; cases hs
  have := hc j (by omega)
  rw [Addr.add_lit] at this
  rw [this]
  rw [List.getElem?_take_of_lt hj] at hs
  rw [List.getD_eq_getElem?_getD, hs]
  rfl
theorem int_of_trod {v : Value} {y : DataW H × List MemPlace} (h : DataW.trod enc Tryd.prog w base spare held fuel 3 [v] = some y) : ∃ n : Int, v = .int .i64 n ∧ -9223372036854775808 ≤ n ∧ n ≤ 9223372036854775807 := by
 obtain ⟨n, h1, _, hw⟩ := DataW.trod_int Tryd.underlying3 h
 obtain rfl : v = .int .i64 n := by simpa using h1
 refine ⟨n, rfl, ?_⟩
 simp only [Lit.wf, Bool.and_eq_true, decide_eq_true_eq] at hw
 have h1 : (IntKind.i64.min : Int) = -9223372036854775808 := by rfl
 have h2 : (IntKind.i64.max : Int) = 9223372036854775807 := by rfl
 rw [h1, h2] at hw
 exact hw
end
end Go.Proofs.YtcaoblilkgajoaaDoor
end
section
namespace Go.Proofs.YtcaoblilkgajoaaDoor
open Go Go.ChangeShapes Go.WideShapes Go.ChangeAt Go.RowKit Go.Deep
section
variable {H : Type} {enc : TypeId × Value → H} {w : World} {base : Nat} {spare : Nat → Bool} {held : Bool} {fuel : Nat}
set_option maxRecDepth 100000 in
theorem open_br {r : Reach} {b0 : Nat} {v : Value} {d : DataW H} {p : List MemPlace} (hval : Value.okWide Tryd.prog w r b0 24 v) (h : DataW.Trod enc Tryd.prog w base spare held 24 v d p) :
 ∃ (s : Int) (A : Option Addr) (n c : Nat) (ws : List Int), v = .agg #[.int .i64 s, .slice A n c] ∧ n ≤ maxLen ∧ IntsAt w A n ws ∧ -9223372036854775808 ≤ s ∧ s ≤ 9223372036854775807 := by
 obtain ⟨cs, rfl, hsz⟩ := okWide_struct Tryd.underlying24 hval
 obtain ⟨fuel, hf⟩ := h
 obtain ⟨c0, c1, rfl⟩ : ∃ c0 c1, cs = #[c0, c1] := by
  have h3 : cs.size = 2 := hsz.trans (by kernel_rfl)
  obtain ⟨l⟩ := cs
  match l, h3 with
  | [a, b], _ => exact ⟨a, b, rfl⟩
 have hf' : DataW.trod enc Tryd.prog w base spare held fuel 24 [c0, c1] = some (d, p) := hf
 obtain ⟨xs, n', _, _, _, hxl, hfld⟩ := DataW.trod_struct Tryd.underlying24 hf'
 have c22 : Tryd.prog.cellsOf 22 = 1 := by kernel_rfl
 have c3 : Tryd.prog.cellsOf 3 = 1 := by kernel_rfl
 have g0 : DataW.trod enc Tryd.prog w base spare held n' 3 (([c0, c1].drop 0).take (Tryd.prog.cellsOf 3)) = xs[0]? := hfld 0 _ rfl
 have g1 : DataW.trod enc Tryd.prog w base spare held n' 22 (([c0, c1].drop 1).take (Tryd.prog.cellsOf 22)) = xs[1]? := hfld 1 _ rfl
 rw [c22] at g1
 rw [c3] at g0
 simp only [List.drop_zero, List.drop_succ_cons, List.take_succ_cons, List.take_zero] at g0 g1
 have x0 : xs[0]? = some (xs[0]'(by rw [hxl]; decide)) := List.getElem?_eq_getElem _
 have x1 : xs[1]? = some (xs[1]'(by rw [hxl]; decide)) := List.getElem?_eq_getElem _
 rw [x0] at g0
 rw [x1] at g1
 obtain ⟨s, rfl, h1, h2⟩ := int_of_trod g0
 obtain ⟨A, n, c, ws, rfl, hn, hs⟩ := ints_of_trod g1
 exact ⟨s, A, n, c, ws, rfl, hn, hs, h1, h2⟩
end
end Go.Proofs.YtcaoblilkgajoaaDoor
end
