/-
 The texts Bh, Trf, Bi, Bm, Open, Xn, By, Bza, Bzg in one.
-/
import Derived.Test.YtcaoblilkgajoaaDoorF09
import Derived.Test.YtcaoblilkgajoaaDoorF06
import Derived.Deep.RegionHeld3
import Derived.Test.YtcaoblilkgajoaaDoorRows
import Derived.Stop.LaidErr
import Derived.Lib.LaidTab
import Derived.Test.YtcaoblilkgajoaaDoorF00
import Derived.ProofKit
import Derived.OpenShut
import Derived.Deep.Slices
import Derived.Deep.Fields
import Derived.ChangeSame
import Derived.Test.YtcaoblilkgajoaaDoorF02
import Derived.ChangeSlices
import Derived.Deep.Strs
import Derived.RangeFuncNested
import Derived.RangeFuncBound
import Derived.RangeFuncCalls
import Derived.RangeFuncLeaves
import Derived.RangeFuncBox
import Derived.Shelf.Abstract
import Derived.Shelf.RegionOpen
import Derived.WalkKit
import Derived.OwnWalkIn
import Derived.TacticsInMore
import Derived.LoopNIn
import Derived.LoopIn
import Derived.Test.YtcaoblilkgajoaaDoorF07
import Derived.RangeFuncFrom
import Derived.Test.YtcaoblilkgajoaaDoorF03
import Derived.Test.YtcaoblilkgajoaaDoorF04
import Derived.Deep.RegionWith
import Derived.Deep.DeepCutAuto
import Derived.Deep.CutBlock
import Derived.Deep.DrawnRows
import Derived.Test.YtcaoblilkgajoaaDoorF01
set_option linter.unusedVariables false
set_option linter.unusedSimpArgs false
section
namespace Go.Proofs.YtcaoblilkgajoaaDoor
open Go Go.RowKit
attribute [local go_sem ↓] Go.wp_at_zero Go.wp_at_succ
theorem rdOk_form {l : List UInt8} (h : rdOk l = true) : ∃ r, l = 32 :: r ∧ rdR l = r := by
 unfold rdOk at h
 rw [Bool.and_eq_true] at h
 have h1 := h.1
 unfold Lib.hasPrefix at h1
 cases l with
 | nil => simp at h1
 | cons a r =>
   have ha : a = 32 := by
    simp [List.isPrefixOf] at h1
    exact h1.symm
   subst ha
   refine ⟨r, rfl, ?_⟩
   unfold rdR Lib.trimPrefix
   rw [if_pos h.1]
   rfl
theorem rdRest_lt {l : List UInt8} (h : rdOk l = true) : (rdRest l).length < l.length := by
 obtain ⟨r, e, e2⟩ := rdOk_form h
 unfold rdRest
 rw [e2, List.length_drop, e]
 simp
 omega
def prW : Nat → List UInt8 → List Int → Option (List Int)
 | 0, _, _ => none
 | k + 1, l, ws => if l = [] then some ws else if rdOk l = true then prW k (rdRest l) (ws ++ [numV (rdTok l)]) else none
theorem prW_fuel : ∀ (k j : Nat) (l : List UInt8) (ws : List Int), l.length < k → l.length < j → prW k l ws = prW j l ws
 | 0, _, _, _, h, _ => by omega
 | _, 0, _, _, _, h => by omega
 | k + 1, j + 1, l, ws, h1, h2 => by
   unfold prW
   by_cases hl : l = []
   ·rw [if_pos hl, if_pos hl]
   ·rw [if_neg hl, if_neg hl]
    by_cases ho : rdOk l = true
    ·have := rdRest_lt ho
     rw [if_pos ho, if_pos ho]
     exact prW_fuel k j _ _ (by omega) (by omega)
    ·rw [if_neg ho, if_neg ho]
def prA (l : List UInt8) (ws : List Int) : Option (List Int) := prW (l.length + 1) l ws
theorem prA_nil (ws : List Int) : prA [] ws = some ws := rfl
theorem prA_step {l : List UInt8} {ws : List Int} (h : l ≠ []) (ho : rdOk l = true) : prA l ws = prA (rdRest l) (ws ++ [numV (rdTok l)]) := by
 have := rdRest_lt ho
 unfold prA
 rw [show prW (l.length + 1) l ws = prW l.length (rdRest l) (ws ++ [numV (rdTok l)]) by
  conv => lhs; unfold prW
  rw [if_neg h, if_pos ho]]
 exact prW_fuel _ _ _ _ (by omega) (by omega)
theorem prA_bad {l : List UInt8} {ws : List Int} (h : l ≠ []) (ho : ¬ rdOk l = true) : prA l ws = none := by
 unfold prA
 unfold prW
 rw [if_neg h, if_neg ho]
def parseR (l : List UInt8) : Option (Int × List Int) :=
 if (Lib.cut l [58]).2.2 = true ∧ numB (Lib.cut l [58]).1 = true then (prA (Lib.cut l [58]).2.1 []).map (fun ws => (numV (Lib.cut l [58]).1, ws)) else none
def brErr (c : Int) : Ending := .returned (.tuple #[.agg #[.int .i64 0, .slice none 0 0], .int .i64 c])
def ParsePost (l : List UInt8) (w : World) (e : Ending) (w' : World) : Prop :=
 (parseR l = none → e = brErr 3) ∧ (∀ st ws, parseR l = some (st, ws) → (¬ Pl.BV st ws → e = brErr 1) ∧ (Pl.BV st ws → ∃ (A : Option Addr) (c : Nat), e = .returned (.tuple #[.agg #[.int .i64 st, .slice A ws.length c], .int .i64 0]) ∧ IntsAt w' A ws.length ws)) ∧ Below w.heap.size w w'
theorem cut_len (l : List UInt8) : (Lib.cut l [58]).1.length ≤ l.length ∧ (Lib.cut l [58]).2.1.length ≤ l.length := by
 unfold Lib.cut
 split
 ·refine ⟨?_, ?_⟩
  ·rw [List.length_take]; exact Nat.min_le_right _ _
  ·rw [List.length_drop]; omega
 ·simp
theorem parse_err3 {l : List UInt8} {w W' : World} (h : parseR l = none) (hb : Below w.heap.size w W') : ParsePost l w (brErr 3) W' :=
 ⟨fun _ => rfl, fun st ws e => (by rw [h] at e; cases e), hb⟩
set_option maxRecDepth 100000 in
set_option maxHeartbeats 4000000 in
theorem parse_any (s : ByteArray) (hs : s.size ≤ 65536) (w : World) (hg : GV w) (hw : 0 < w.heap.size) :
 Calls Tryd.prog 18 #[.string s] w (ParsePost s.data.toList w) := by
 have HG := hide hg
 have R0 := hide (row_at (W := w) (g := w.heap.size) (t := 24) (vs := [.int .i64 0, .slice none 0 0]) rfl)
 have B0 := hide (show Below w.heap.size w (w.alloc (.cells #[.int .i64 0, .slice none 0 0] 24)) from (Below.refl _ _).alloc (Nat.le_refl _) _)
 have hs1 : ¬ ((65536 : Int) < (s.size : Int)) := by omega
 obtain ⟨mv, hmv⟩ := (HG.out.below B0.out).m
 clear hg
 go_enter Tryd.func18, Tryd.ntmps18
 go_wp2_with fail
 refine (Tryd.strings_Cut s ⟨#[58]⟩ mv _ (by omega) hmv).mono ?_
 rintro e w1 ⟨rfl, nd, rfl⟩
 obtain ⟨cc, hcc⟩ : ∃ c, c = Lib.cut s.data.toList (⟨#[58]⟩ : ByteArray).data.toList := ⟨_, rfl⟩
 rw [← hcc]
 have HCC := hide (show cc = Lib.cut s.data.toList [58] from hcc)
 have hcl := cut_len s.data.toList
 rw [← HCC.out, ← Lib.size_eq] at hcl
 obtain ⟨hcl1, hcl2⟩ := hcl
 clear hcc hmv
 obtain ⟨hd, tl, fd⟩ := cc
 obtain ⟨hs, hhs⟩ : ∃ x : ByteArray, x = ⟨hd.toArray⟩ := ⟨_, rfl⟩
 obtain ⟨ts, hts⟩ : ∃ x : ByteArray, x = ⟨tl.toArray⟩ := ⟨_, rfl⟩
 have HHS := hide (show hs.data.toList = hd by rw [hhs])
 have HTS := hide (show ts.data.toList = tl by rw [hts])
 have hhs1 : hs.size ≤ 65536 := by rw [Lib.size_eq, HHS.out]; simp at hcl1; omega
 have hts1 : ts.size ≤ 65536 := by rw [Lib.size_eq, HTS.out]; simp at hcl2; omega
 simp only []
 rw [← hhs, ← hts]
 clear hhs hts
 obtain ⟨V1, hV1⟩ : ∃ V, V = (w.alloc (.cells #[.int .i64 0, .slice none 0 0] 24)).drewN nd := ⟨_, rfl⟩
 have R1 := hide (show Row V1 w.heap.size 24 [.int .i64 0, .slice none 0 0] by rw [hV1]; exact R0.out.below (below_drewN (Below.refl _ _) _))
 have B1 := hide (show Below w.heap.size w V1 by rw [hV1]; exact below_drewN B0.out _)
 rw [← hV1]
 clear hV1 R0 B0
 have T1 := hide (row_at (W := V1) (g := V1.heap.size) (t := 9) (vs := [.string ts]) rfl)
 have C1' := hide (show Below V1.heap.size V1 (V1.alloc (.cells #[.string ts] 9)) from (Below.refl _ _).alloc (Nat.le_refl _) _)
 have hV1w : w.heap.size < V1.heap.size := R1.out.lt
 go_wp2_with fail
 refine (bnum_any hs (by omega) _ (HG.out.below (B1.out.trans (C1'.out.mono B1.out.size)))).mono ?_
 rintro e w2 ⟨rfl, hb2⟩
 rw [HHS.out]
 have R2 := hide (R1.out.below (C1'.out.trans (hb2.mono C1'.out.size)))
 have T2 := hide (T1.out.below hb2)
 have B2 := hide (C1'.out.trans (hb2.mono C1'.out.size))
 obtain ⟨gt, hgt⟩ : ∃ g, g = V1.heap.size := ⟨_, rfl⟩
 rw [← hgt] at T2 ⊢
 have HGT := hide hgt
 obtain ⟨nv, hnv⟩ : ∃ x, x = numV hd := ⟨_, rfl⟩
 obtain ⟨nb, hnb⟩ : ∃ x, x = numB hd := ⟨_, rfl⟩
 rw [← hnv, ← hnb]
 have HPR := hide (show parseR s.data.toList = if fd = true ∧ nb = true then (prA tl []).map (fun ws => (nv, ws)) else none by
  unfold parseR
  rw [← HCC.out, hnb, hnv])
 have BW := hide (B1.out.trans (B2.out.mono B1.out.size))
 obtain ⟨t0, t1, t2⟩ := box2b ((R2.out.set 0 (.int .i64 0)).set 1 (.slice none 0 0))
 obtain ⟨r0, r1, r2⟩ := box2b R2.out
 clear hgt hnv hnb hb2 T1 C1'
 by_cases hok : fd = true ∧ nb = true
 ·obtain ⟨rfl, rfl⟩ := hok
  go_upto_region 8 with fail
  obtain ⟨gb, hgb⟩ : ∃ g, g = w2.heap.size := ⟨_, rfl⟩
  obtain ⟨base, hbase⟩ : ∃ g, g = w2.heap.size + 1 := ⟨_, rfl⟩
  obtain ⟨V3, hV3⟩ : ∃ V, V = w2.alloc (.cells #[.int .i64 nv, .slice none 0 0] 24) := ⟨_, rfl⟩
  have P0 := hide (show PB base V1 gt gb ts nv (.slice none 0 0) [] V3 from by
   have h1 := T2.out.lt
   have h2 := B2.out.size
   have h3 := HGT.out
   rw [hV3, hgb, hbase]
   exact ⟨T2.out.alloc _, row_at rfl, World.ownsRow_nil _ _ _ _, ⟨by omega, by omega⟩, ⟨by omega, by omega⟩, by omega, B2.out.alloc h2 _, by simp⟩)
  rw [← hgb, ← hV3]
  clear hgb hbase hV3 t0 t1 t2 r0 r1 r2 T2
  go_wp2_with fail
  go_loopg [3] tl.length (fun g s3 wx => s3 = .int .i64 0 ∧ ∃ (s' : ByteArray) (vS : Value) (ws : List Int), PB base V1 gt gb s' nv vS ws wx ∧ s'.data.toList.length ≤ g ∧ ws.length + s'.data.toList.length ≤ 65536 ∧ prA tl [] = prA s'.data.toList ws)
  case atStart => exact ⟨rfl, ts, _, [], P0.out, by rw [HTS.out]; exact Nat.le_refl _, by rw [HTS.out]; have := hcl2; simp at this ⊢; omega, by rw [HTS.out]⟩
  case round =>
   clear P0
   obtain ⟨rfl, s', vS, ws, hp, hlen, hlw, hpa⟩ := hrel
   have P1 := hide hp
   have HPA := hide hpa
   clear hp hpa
   have c0 := P1.out.t.cell (i := 0) (by simp)
   simp only [List.getElem_cons_zero] at c0
   have R3 := hide (R1.out.below P1.out.bel)
   have B3 := hide (B1.out.trans (P1.out.bel.mono B1.out.size))
   by_cases hl : s'.data.toList = []
   ·have hem : s'.toList.isEmpty = true := by rw [ByteArray.toList_eq, hl]; rfl
    have HRS := hide (show parseR s.data.toList = some (nv, ws) by rw [HPR.out, if_pos (by simp), HPA.out, hl, prA_nil]; rfl)
    clear hl
    obtain ⟨A4, c4, rfl⟩ := owns_slice P1.out.own
    obtain ⟨b0, b1, b2⟩ := box2b P1.out.b
    go_wp2_with fail
    refine (bvalid_any nv ws A4 ws.length c4 _ (own_rowT P1.out.own).row (by unfold maxLen; omega)).mono ?_
    rintro e w4 ⟨rfl, hb4⟩
    have P4 := hide (P1.out.below hb4)
    have R4 := hide (R3.out.below hb4)
    have B4 := hide (B3.out.trans (hb4.mono B3.out.size))
    clear hb4 c0 b0 b1 b2 P1 R3 B3
    obtain ⟨b0, b1, b2⟩ := box2b P4.out.b
    obtain ⟨r0, r1, r2⟩ := box2b R4.out
    by_cases hv : Pl.BV nv ws
    ·rw [Pl.vb_true hv]
     have HV := hide hv
     clear hv
     obtain ⟨t0, t1, t2⟩ := box2b ((R4.out.set 0 (.int .i64 nv)).set 1 (.slice A4 ws.length c4))
     have hgb1 : w.heap.size < base := by have h1 := P4.out.lb; omega
     go_wp2
     refine bodyPost_ret (v := .tuple #[.agg #[.int .i64 nv, .slice A4 ws.length c4], .int .i64 0]) (by simp [results, Tryd.results18, go_sem, t0, t1]) rfl ?_
     refine ⟨fun h => (by rw [HRS.out] at h; cases h), fun st ws' h => ?_, (B4.out.setCell (by show _ ≤ w.heap.size; omega) _).setCell (by show _ ≤ w.heap.size; omega) _⟩
     rw [HRS.out] at h
     obtain ⟨rfl, rfl⟩ : nv = st ∧ ws = ws' := by simpa using h
     exact ⟨fun h => absurd HV.out h, fun _ => ⟨A4, c4, rfl, (own_rowT (ownsRow_setCell_below (ownsRow_setCell_below P4.out.own (by show w.heap.size < base; omega) _) (by show w.heap.size < base; omega) _)).row⟩⟩
    ·rw [Pl.vb_false hv]
     have HV := hide hv
     clear hv
     obtain ⟨t0, t1, t2⟩ := box2b ((R4.out.set 0 (.int .i64 0)).set 1 (.slice none 0 0))
     go_wp2
     refine bodyPost_ret (v := .tuple #[.agg #[.int .i64 0, .slice none 0 0], .int .i64 1]) (by simp [results, Tryd.results18, go_sem, t0, t1]) rfl ?_
     refine ⟨fun h => (by rw [HRS.out] at h; cases h), fun st ws' h => ?_, (B4.out.setCell (by show _ ≤ w.heap.size; omega) _).setCell (by show _ ≤ w.heap.size; omega) _⟩
     rw [HRS.out] at h
     obtain ⟨rfl, rfl⟩ : nv = st ∧ ws = ws' := by simpa using h
     exact ⟨fun _ => rfl, fun h => absurd h HV.out⟩
   ·have hem : s'.toList.isEmpty = false := by
     rw [ByteArray.toList_eq]
     cases h : s'.data.toList with
     | nil => exact absurd h hl
     | cons a r => rfl
    have HLN := hide hl
    have hpos : 0 < s'.data.toList.length := List.length_pos_iff.2 hl
    have hsz : s'.size ≤ 70000 := by rw [Lib.size_eq]; omega
    clear hl
    go_wp2_with fail
    refine (bread_any P1.out hsz (by omega) (HG.out.below B1.out)).mono ?_
    rintro e w3 ⟨rfl, s2, vS2, hs2, hp2⟩
    have P2 := hide hp2
    have HS2 := hide hs2
    have R4 := hide (R1.out.below P2.out.bel)
    have B4 := hide (B1.out.trans (P2.out.bel.mono B1.out.size))
    clear hp2 hs2 c0 P1 R3 B3 hem
    obtain ⟨ok, hok⟩ : ∃ b, b = rdOk s'.data.toList := ⟨_, rfl⟩
    rw [← hok]
    have HOK := hide hok
    clear hok
    cases ok with
    | true =>
      have HLT := hide (rdRest_lt HOK.out.symm)
      have HST := hide (prA_step (ws := ws) HLN.out HOK.out.symm)
      go_wp2
      go_roundg (gk - 1)
      case measure => omega
      case rel => exact ⟨rfl, s2, vS2, _, P2.out, by rw [HS2.out]; have := HLT.out; omega, by rw [HS2.out]; have := HLT.out; simp; omega, by rw [HPA.out, HST.out, HS2.out]⟩
    | false =>
      have HRN := hide (show parseR s.data.toList = none by rw [HPR.out, if_pos (by simp), HPA.out, prA_bad HLN.out (by rw [← HOK.out]; decide)]; rfl)
      obtain ⟨r0, r1, r2⟩ := box2b R4.out
      obtain ⟨t0, t1, t2⟩ := box2b ((R4.out.set 0 (.int .i64 0)).set 1 (.slice none 0 0))
      go_wp2
      refine bodyPost_ret (v := .tuple #[.agg #[.int .i64 0, .slice none 0 0], .int .i64 3]) (by simp [results, Tryd.results18, go_sem, t0, t1]) rfl ?_
      exact parse_err3 HRN.out ((B4.out.setCell (by show _ ≤ w.heap.size; omega) _).setCell (by show _ ≤ w.heap.size; omega) _)
 ·have HN := hide (show parseR s.data.toList = none by rw [HPR.out, if_neg hok])
  have hfb : fd = false ∨ (fd = true ∧ nb = false) := by
   cases fd
   ·exact .inl rfl
   ·cases nb
    ·exact .inr ⟨rfl, rfl⟩
    ·exact absurd ⟨rfl, rfl⟩ hok
  clear hok
  rcases hfb with rfl | ⟨rfl, rfl⟩
  ·go_wp2
   refine bodyPost_ret (v := .tuple #[.agg #[.int .i64 0, .slice none 0 0], .int .i64 3]) (by simp [results, Tryd.results18, go_sem, t0, t1]) rfl ?_
   exact parse_err3 HN.out ((BW.out.setCell (by show _ ≤ w.heap.size; omega) _).setCell (by show _ ≤ w.heap.size; omega) _)
  ·go_wp2
   refine bodyPost_ret (v := .tuple #[.agg #[.int .i64 0, .slice none 0 0], .int .i64 3]) (by simp [results, Tryd.results18, go_sem, t0, t1]) rfl ?_
   exact parse_err3 HN.out ((BW.out.setCell (by show _ ≤ w.heap.size; omega) _).setCell (by show _ ≤ w.heap.size; omega) _)
end Go.Proofs.YtcaoblilkgajoaaDoor
end
section
namespace Go.Proofs.YtcaoblilkgajoaaDoor.Pl
def tref : Dg := ⟨[1, 1, 1], [9, 4, 7, 10, 1, 8, 11, 2, 5, 0, 3, 6], 0⟩
theorem tref_is : clD 2 [1, 1, 1] = tref := by decide
theorem tref_n : tref.n = 3 := rfl
theorem tref_wf : Wf tref := by
 refine ⟨by decide, by decide, by decide, ?_, ?_, ?_, ?_, ?_⟩
 ·show ∀ c, c < 3 → tref.s c = 1 ∨ tref.s c = -1
  decide
 ·show ∀ h, h < 12 → tref.m h < 12
  decide
 ·show ∀ h, h < 12 → tref.m h ≠ h
  decide
 ·show ∀ h, h < 12 → tref.m (tref.m h) = h
  decide
 ·show ∀ h, h < 12 → out tref h ≠ out tref (tref.m h)
  decide
theorem it_period {f : Nat → Nat} {h p : Nat} (hp : 0 < p) (e : it f p h = h) (hl : ∀ k, k < p → h ≤ it f k h) : ∀ k, h ≤ it f k h := by
 intro k
 induction k using Nat.strongRecOn with
 | _ k ih =>
   by_cases hk : k < p
   ·exact hl k hk
   ·have := ih (k - p) (by omega)
    rw [show k = (k - p) + p by omega, it_add, e]
    exact this
theorem tref_least : ∀ h, h < 12 → (Least (nx tref) h ↔ h = 0 ∨ h = 1 ∨ h = 2 ∨ h = 3 ∨ h = 5) := by
 intro h hh
 have yes3 : ∀ h, it (nx tref) 3 h = h → h ≤ it (nx tref) 1 h → h ≤ it (nx tref) 2 h → Least (nx tref) h := fun h e a b => it_period (by omega) e (fun k hk => by
  match k, hk with
  | 0, _ => exact Nat.le_refl _
  | 1, _ => exact a
  | 2, _ => exact b)
 have yes2 : ∀ h, it (nx tref) 2 h = h → h ≤ it (nx tref) 1 h → Least (nx tref) h := fun h e a => it_period (by omega) e (fun k hk => by
  match k, hk with
  | 0, _ => exact Nat.le_refl _
  | 1, _ => exact a)
 match h, hh with
 | 0, _ => exact ⟨fun _ => by omega, fun _ => yes3 0 (by decide) (by decide) (by decide)⟩
 | 1, _ => exact ⟨fun _ => by omega, fun _ => yes2 1 (by decide) (by decide)⟩
 | 2, _ => exact ⟨fun _ => by omega, fun _ => yes3 2 (by decide) (by decide) (by decide)⟩
 | 3, _ => exact ⟨fun _ => by omega, fun _ => yes2 3 (by decide) (by decide)⟩
 | 4, _ => exact ⟨fun l => absurd (l 1) (by decide), fun e => by omega⟩
 | 5, _ => exact ⟨fun _ => by omega, fun _ => yes2 5 (by decide) (by decide)⟩
 | 6, _ => exact ⟨fun l => absurd (l 2) (by decide), fun e => by omega⟩
 | 7, _ => exact ⟨fun l => absurd (l 1) (by decide), fun e => by omega⟩
 | 8, _ => exact ⟨fun l => absurd (l 1) (by decide), fun e => by omega⟩
 | 9, _ => exact ⟨fun l => absurd (l 1) (by decide), fun e => by omega⟩
 | 10, _ => exact ⟨fun l => absurd (l 1) (by decide), fun e => by omega⟩
 | 11, _ => exact ⟨fun l => absurd (l 1) (by decide), fun e => by omega⟩
 | n + 12, h => omega
theorem tref_nb {c : Nat} (hc : c < 3) : Comp tref c ((c + 1) % 3) := by
 have key : ∀ c, c < 3 → ∃ t, t < 12 ∧ t / 4 = c ∧ tref.m t / 4 = (c + 1) % 3 := by
  intro c hc
  match c, hc with
  | 0, _ => exact ⟨1, by decide, by decide, by decide⟩
  | 1, _ => exact ⟨5, by decide, by decide, by decide⟩
  | 2, _ => exact ⟨9, by decide, by decide, by decide⟩
 obtain ⟨t, h1, h2, h3⟩ := key c hc
 have h := (con_comp tref_wf (g := t) (h := tref.m t) (by rw [tref_n]; omega) (tref_wf.lt t (by rw [tref_n]; omega))).1 (Con.right Con.refl)
 rw [h2, h3] at h
 exact h
theorem tref_con {a b : Nat} (ha : a < 3) (hb : b < 3) : Comp tref a b := by
 have s : ∀ c, c < 3 → Comp tref c ((c + 1) % 3) := fun c hc => tref_nb hc
 have h01 : Comp tref 0 1 := s 0 (by omega)
 have h12 : Comp tref 1 2 := s 1 (by omega)
 have h20 : Comp tref 2 0 := s 2 (by omega)
 match a, b, ha, hb with
 | 0, 0, _, _ => exact h01.trans (h12.trans h20)
 | 0, 1, _, _ => exact h01
 | 0, 2, _, _ => exact h01.trans h12
 | 1, 0, _, _ => exact h12.trans h20
 | 1, 1, _, _ => exact h12.trans (h20.trans h01)
 | 1, 2, _, _ => exact h12
 | 2, 0, _, _ => exact h20
 | 2, 1, _, _ => exact h20.trans h01
 | 2, 2, _, _ => exact h20.trans (h01.trans h12)
theorem cnt_iff {p q : Nat → Prop} : ∀ n, (∀ h, h < n → (p h ↔ q h)) → cnt p n = cnt q n
 | 0, _ => rfl
 | n + 1, h => by
   have ih := cnt_iff (p := p) (q := q) n (fun k hk => h k (by omega))
   have e := h n (by omega)
   unfold cnt
   rw [ih]
   by_cases hq : q n
   ·rw [if_pos hq, if_pos (e.2 hq)]
   ·rw [if_neg hq, if_neg (fun hp => hq (e.1 hp))]
theorem tref_ok : Valid tref := by
 refine ⟨tref_wf, fun c hc => ?_⟩
 have hc3 : c < 3 := hc
 have e1 : cnt (fun h => Least (nx tref) h ∧ Comp tref c (h / 4)) (4 * tref.n) = cnt (fun h => h = 0 ∨ h = 1 ∨ h = 2 ∨ h = 3 ∨ h = 5) 12 :=
  cnt_iff 12 (fun h hh => ⟨fun e => (tref_least h hh).1 e.1, fun e => ⟨(tref_least h hh).2 e, tref_con hc3 (by omega)⟩⟩)
 have e2 : cnt (fun b => Comp tref c b) tref.n = cnt (fun _ => True) 3 := cnt_iff 3 (fun b hb => ⟨fun _ => trivial, fun _ => tref_con hc3 hb⟩)
 rw [e1, e2]
 simp [cnt]
end Go.Proofs.YtcaoblilkgajoaaDoor.Pl
end
section
namespace Go.Proofs.YtcaoblilkgajoaaDoor
open Go Go.RowKit
attribute [local go_sem ↓] Go.wp_at_zero Go.wp_at_succ
theorem two_rowsT (W : World) : let V := (W.alloc (.cells #[.int .i64 1, .int .i64 1, .int .i64 1] 3)).alloc (.cells #[.int .i64 9, .int .i64 4, .int .i64 7, .int .i64 10, .int .i64 1, .int .i64 8, .int .i64 11, .int .i64 2, .int .i64 5, .int .i64 0, .int .i64 3, .int .i64 6] 3); Row V W.heap.size 3 [.int .i64 1, .int .i64 1, .int .i64 1] ∧ Row V (W.heap.size + 1) 3 [.int .i64 9, .int .i64 4, .int .i64 7, .int .i64 10, .int .i64 1, .int .i64 8, .int .i64 11, .int .i64 2, .int .i64 5, .int .i64 0, .int .i64 3, .int .i64 6] := by
 refine ⟨(row_at (vs := [.int .i64 1, .int .i64 1, .int .i64 1]) rfl).alloc _, row_at (vs := [.int .i64 9, .int .i64 4, .int .i64 7, .int .i64 10, .int .i64 1, .int .i64 8, .int .i64 11, .int .i64 2, .int .i64 5, .int .i64 0, .int .i64 3, .int .i64 6]) (by simp)⟩
def TrefPost (w : World) (e : Ending) (w' : World) : Prop :=
 ∃ (A B : Option Addr) (c d : Nat), e = .returned (.agg #[.slice A Pl.tref.n c, .slice B 12 d, .int .i64 (Pl.tref.lp : Int)]) ∧ DgAt w' A B Pl.tref ∧ Below w.heap.size w w'
set_option maxRecDepth 100000 in
set_option maxHeartbeats 2000000 in
theorem trefoil_any (w : World) : Calls Tryd.prog 35 #[] w (TrefPost w) := by
 have R0 := hide (row_at (W := w) (g := w.heap.size) (t := 28) (vs := [.slice none 0 0, .slice none 0 0, .int .i64 0]) rfl)
 obtain ⟨d0, d1, d2, d3⟩ := box3 R0.out
 go_enter Tryd.func35, Tryd.ntmps35
 go_wp2
 obtain ⟨V, hV⟩ : ∃ V, V = w.alloc (.cells #[.slice (some ⟨w.heap.size + 1, 0, none⟩) 3 3, .slice (some ⟨w.heap.size + 1 + 1, 0, none⟩) 12 12, .int .i64 0] 28) := ⟨_, rfl⟩
 have hs : V.heap.size = w.heap.size + 1 := by rw [hV]; simp
 have hB : Below w.heap.size w V := by rw [hV]; exact (Below.refl _ _).alloc (Nat.le_refl _) _
 have hR : Row V w.heap.size 28 [.slice (some ⟨w.heap.size + 1, 0, none⟩) 3 3, .slice (some ⟨w.heap.size + 1 + 1, 0, none⟩) 12 12, .int .i64 0] := by rw [hV]; exact row_at rfl
 obtain ⟨h1, h2⟩ := two_rowsT V
 rw [hs] at h1 h2
 rw [← hV]
 obtain ⟨t0, t1, t2, _⟩ := box3 ((hR.alloc (.cells #[.int .i64 1, .int .i64 1, .int .i64 1] 3)).alloc (.cells #[.int .i64 9, .int .i64 4, .int .i64 7, .int .i64 10, .int .i64 1, .int .i64 8, .int .i64 11, .int .i64 2, .int .i64 5, .int .i64 0, .int .i64 3, .int .i64 6] 3))
 refine bodyPost_ret (v := .agg #[.slice (some ⟨w.heap.size + 1, 0, none⟩) 3 3, .slice (some ⟨w.heap.size + 1 + 1, 0, none⟩) 12 12, .int .i64 0]) (by simp [results, Tryd.results35, go_sem, t0, t1, t2]) rfl ?_
 refine ⟨some ⟨w.heap.size + 1, 0, none⟩, some ⟨w.heap.size + 1 + 1, 0, none⟩, 3, 12, rfl, ⟨?_, ?_⟩, (hB.alloc hB.size _).alloc (by simp; have := hB.size; omega) _⟩
 ·exact IRow.ints (zs := [1, 1, 1]) h1
 ·exact IRow.ints (zs := [9, 4, 7, 10, 1, 8, 11, 2, 5, 0, 3, 6]) h2
theorem parse_eg : parseR [50, 58, 32, 49, 32, 49, 32, 49] = some (2, [1, 1, 1]) := by decide +kernel
theorem bv_eg : Pl.BV 2 [1, 1, 1] := ⟨by decide, by decide, by decide, by decide⟩
theorem bv_eg2 : Pl.BV 3 [1, 2] := ⟨by decide, by decide, by decide, by decide⟩
theorem pm_eg : Pl.pmR 3 [1, 2] = [2, 0, 1] := by decide
set_option maxRecDepth 100000 in
set_option maxHeartbeats 4000000 in
theorem awake33 (w : World) (hg : GV w) (hw : 0 < w.heap.size) : Calls Tryd.prog 10 #[] w fun e w' => e = .returned (.bool true) ∧ Below w.heap.size w w' := by
 have HG := hide hg
 clear hg
 go_enter Tryd.func10, Tryd.ntmps10
 go_wp2_with fail
 refine (parse_any ⟨#[50, 58, 32, 49, 32, 49, 32, 49]⟩ (by decide) _ HG.out hw).mono ?_
 rintro e w1 ⟨_, hp, hb1⟩
 obtain ⟨A1, c1, rfl, hI1⟩ := (hp 2 [1, 1, 1] parse_eg).2 bv_eg
 have HI1 := hide hI1
 have B1 := hide hb1
 clear hp hI1 hb1
 have X1 := hide (row_at (W := w1) (g := w1.heap.size) (t := 24) (vs := [.int .i64 2, .slice A1 3 c1]) rfl)
 have C1' := hide (show Below w1.heap.size w1 (w1.alloc (.cells #[.int .i64 2, .slice A1 3 c1] 24)) from (Below.refl _ _).alloc (Nat.le_refl _) _)
 obtain ⟨d0, d1, d2⟩ := box2b X1.out
 go_wp2_with fail
 refine (closure_any 2 [1, 1, 1] A1 3 c1 _ (HI1.out.keep C1'.out) (by omega)).mono ?_
 rintro e w2 ⟨_, hp, hb2⟩
 obtain ⟨S2, M2, c2, rfl, hD2⟩ := hp bv_eg
 rw [show (2 : Int).toNat = 2 from rfl, Pl.tref_is] at hD2 ⊢
 have B2 := hide (B1.out.trans ((C1'.out.trans (hb2.mono C1'.out.size)).mono B1.out.size))
 have D2 := hide hD2
 clear hp hD2 hb2 d0 d1 d2 X1 C1' HI1
 go_wp2_with fail
 obtain ⟨V3, hV3⟩ : ∃ V, V = (w2.alloc (.cells #[.slice S2 3 c2, .slice M2 12 12, .int .i64 (Pl.tref.lp : Int)] 28)).alloc (.cells #[.int .i64 1, .int .i64 2] 3) := ⟨_, rfl⟩
 have X3 := hide (show Row V3 w2.heap.size 28 [.slice S2 3 c2, .slice M2 12 12, .int .i64 (Pl.tref.lp : Int)] by rw [hV3]; exact (row_at rfl).alloc _)
 have hI3r := hide (show IntsAt V3 (some ⟨w2.heap.size + 1, 0, none⟩) 2 [1, 2] by
  rw [hV3]
  exact IRow.ints (zs := [1, 2]) (row_at (vs := [.int .i64 1, .int .i64 2]) (by simp)))
 have C3 := hide (show Below w2.heap.size w2 V3 by rw [hV3]; exact ((Below.refl _ _).alloc (Nat.le_refl _) _).alloc (by simp) _)
 rw [← hV3]
 clear hV3
 refine (perm_any 3 [1, 2] (some ⟨w2.heap.size + 1, 0, none⟩) 2 2 _ hI3r.out (by unfold maxLen; omega)).mono ?_
 rintro e w4 ⟨_, hp, hb4⟩
 obtain ⟨g, hg, rfl, hr⟩ := hp bv_eg2
 rw [show (3 : Int).toNat = 3 from rfl] at hr ⊢
 rw [pm_eg] at hr
 have X4 := hide (X3.out.below hb4)
 have hP4r := hide hr
 have B4 := hide (B2.out.trans ((C3.out.trans (hb4.mono C3.out.size)).mono B2.out.size))
 have D4 := hide (D2.out.keep (C3.out.trans (hb4.mono C3.out.size)))
 clear hp hg hr hb4 X3 hI3r C3 B2 D2
 have hXDr := hide (X4.out.below (Below.refl w4.heap.size w4).drew)
 have hPDr := hide (show IRow w4.drew g (nats [2, 0, 1]) from Row.below hP4r.out (Below.refl w4.heap.size w4).drew)
 have hBDr := hide B4.out.drew
 have hDDr := hide (D4.out.keep (Below.refl w4.heap.size w4).drew)
 have q0 := IRow.cell hP4r.out (i := 0) (by decide)
 have q1 := IRow.cell hP4r.out (i := 1) (by decide)
 have q2 := IRow.cell hP4r.out (i := 2) (by decide)
 rw [show Pl.pv (nats [2, 0, 1]) 0 = 2 from rfl] at q0
 rw [show Pl.pv (nats [2, 0, 1]) 1 = 0 from rfl] at q1
 rw [show Pl.pv (nats [2, 0, 1]) 2 = 1 from rfl] at q2
 obtain ⟨d0, d1, d2, d3⟩ := box3 X4.out
 have HV := hide Pl.tref_ok
 have HVB := hide (show Pl.vb (∃ σ, Pl.Iso Pl.tref Pl.tref σ) = true from Pl.vb_true ⟨_, Pl.Iso.refl Pl.tref⟩)
 go_upto_region 4 with fail
 go_region_held3 (fun w' => w'.cell? ⟨w2.heap.size, 0, none⟩ = some (.slice S2 3 c2) ∧ w'.cell? ⟨w2.heap.size, 1, none⟩ = some (.slice M2 12 12) ∧ w'.cell? ⟨w2.heap.size, 2, none⟩ = some (.int .i64 (Pl.tref.lp : Int)) ∧ w'.cell? ⟨g, 0, none⟩ = some (.int .i64 2) ∧ w'.cell? ⟨g, 1, none⟩ = some (.int .i64 0) ∧ w'.cell? ⟨g, 2, none⟩ = some (.int .i64 1))
  (first | go_keep | assumption | (exact ⟨k0, k1, k2, p0, p1, p2⟩))
  (first
  | (go_at_call 17
     have hx := hb5
     refine Calls.mono (same_yes Pl.tref Pl.tref HV.out HV.out (by decide) (by decide) S2 M2 A5 B5 c2 12 12 c5 e5 12 _ rfl (hDDr.out.keep hx) rfl hD5) ?_
     rintro e w6 ⟨rfl, hb6⟩
     rw [HVB.out]
     obtain ⟨k0, k1, k2, k3⟩ := box3 ((hXDr.out.below hx).below hb6)
     have hP6 : IRow w6 g (nats [2, 0, 1]) := Row.below (Row.below hPDr.out hx) hb6
     have p0 := IRow.cell hP6 (i := 0) (by decide)
     have p1 := IRow.cell hP6 (i := 1) (by decide)
     have p2 := IRow.cell hP6 (i := 2) (by decide)
     rw [show Pl.pv (nats [2, 0, 1]) 0 = 2 from rfl] at p0
     rw [show Pl.pv (nats [2, 0, 1]) 1 = 0 from rfl] at p1
     rw [show Pl.pv (nats [2, 0, 1]) 2 = 1 from rfl] at p2
     have HF := hide (hBDr.out.trans ((hx.trans (hb6.mono hx.size)).mono hBDr.out.size)))
  | (go_at_call 35
     refine Calls.mono (trefoil_any _) ?_
     rintro e w5 ⟨A5, B5, c5, e5, rfl, hD5, hb5⟩
     obtain ⟨k0, k1, k2, k3⟩ := box3 (hXDr.out.below hb5)
     have hP5 : IRow w5 g (nats [2, 0, 1]) := Row.below hPDr.out hb5
     have p0 := IRow.cell hP5 (i := 0) (by decide)
     have p1 := IRow.cell hP5 (i := 1) (by decide)
     have p2 := IRow.cell hP5 (i := 2) (by decide)
     rw [show Pl.pv (nats [2, 0, 1]) 0 = 2 from rfl] at p0
     rw [show Pl.pv (nats [2, 0, 1]) 1 = 0 from rfl] at p1
     rw [show Pl.pv (nats [2, 0, 1]) 2 = 1 from rfl] at p2))
 all_goals (go_wp2_with fail)
 all_goals (go_ret; exact ⟨rfl, HF.out⟩)
end Go.Proofs.YtcaoblilkgajoaaDoor
end
section
namespace Go.Proofs.YtcaoblilkgajoaaDoor
open Go Go.RowKit
theorem star_err : "*" ++ "errors.errorString" = "*errors.errorString" := by decide
theorem row_err (u : TypeId) (h : Tryd.prog.typeName? 3 u = some "*errors.errorString") : u = 142 :=
 typeName_ptr_named (nm := "errors.errorString") (by rw [star_err]; kernel_rfl) (by kernel_rfl) (by decide) u (by rw [star_err]; exact h)
theorem gv_of {W : World} {t1 t2 : String × DataW Unit} (hm : ∃ m, W.cell? ⟨0, 0, none⟩ = some (.int .i64 m))
 (hL : laidMet Tryd.prog [t1, t2, ("internal/strconv.uint64pow10", Rows.laid_internal_strconv_uint64pow10), ("strconv.ErrRange", Rows.laid_strconv_ErrRange), ("strconv.ErrSyntax", Rows.laid_strconv_ErrSyntax)] W) : GV W := by
 have h3 := hL.tail.tail
 have h4 := h3.tail
 have h5 := h4.tail
 refine ⟨hm, ?_, ?_, ?_⟩
 ·exact Lib.tabIs_of_head (g := 3) (t := 137) (e := 120) (n := 20) (by kernel_rfl) (by kernel_rfl) (by kernel_rfl) (by kernel_rfl) (by kernel_rfl) (by kernel_rfl) (rest := _) h3
 ·obtain ⟨a1, s1, hv1, -, -, -⟩ := laid_sentinel h5 (g := 1) (ti := 92) (tp := 142) (te := 144) (ts := 9) (by kernel_rfl) (by kernel_rfl) Tryd.underlying92 row_err Tryd.underlying142 Tryd.underlying144 rfl rfl Tryd.underlying9 (by kernel_rfl) (by kernel_rfl)
  exact ⟨_, (by have h0 := World.var?_cell (P := Tryd.prog) (g := 1) (by kernel_rfl) hv1 0; simpa using h0), .inr ⟨_, _, rfl⟩⟩
 ·obtain ⟨a1, s1, hv1, -, -, -⟩ := laid_sentinel h4 (g := 2) (ti := 92) (tp := 142) (te := 144) (ts := 9) (by kernel_rfl) (by kernel_rfl) Tryd.underlying92 row_err Tryd.underlying142 Tryd.underlying144 rfl rfl Tryd.underlying9 (by kernel_rfl) (by kernel_rfl)
  exact ⟨_, (by have h0 := World.var?_cell (P := Tryd.prog) (g := 2) (by kernel_rfl) hv1 0; simpa using h0), .inr ⟨_, _, rfl⟩⟩
end Go.Proofs.YtcaoblilkgajoaaDoor
end
section
namespace Go.Proofs.YtcaoblilkgajoaaDoor
open Go.ChangeShapes Go.WideShapes Go.ChangeAt Go.RowKit Go.Deep
section
variable {H : Type} {enc : TypeId × Value → H} {P : Program} {w : World} {base : Nat} {spare : Nat → Bool} {held : Bool}
theorem post_of_below {f : Func} {s : ChangeSpec} {apart fresh handsOn again : Bool} {W W' : World} {args : Array Value} {v : Value} {ds gs : List (DataW H)} {before pa pv : List MemPlace}
 (hW : DataW.Whole enc P f.params.toList s.vars apart W args.toList ds gs before)
 (hres : ∀ (b : Nat) (sp : Nat → Bool) (hd : Bool), DataW.TrodAll enc P W' b sp hd f.resultTypes.toList (v.resultList f.resultTypes.size) (s.fn H (ds ++ gs)).results [])
 (hargs : ∀ sp : Nat → Bool, (∀ p ∈ before, sp p.block = true) → DataW.TrodAll enc P W' 0 sp true f.params.toList args.toList (s.fn H (ds ++ gs)).args pa)
 (hvars : ∀ sp : Nat → Bool, (∀ p ∈ before, sp p.block = true) → DataW.TrodVars enc P W' sp s.vars (s.fn H (ds ++ gs)).vars pv)
 (hps : before = pa ++ pv) (hb : Below W.heap.size W W')
 (hok : ∀ (j : Nat) (t : TypeId) (r : Value), f.resultTypes[j]? = some t → (v.resultList f.resultTypes.size)[j]? = some r → Value.okWide P W' .any 0 t r) :
 s.post enc P f apart fresh handsOn again W args v W' := by
 have hlt : ∀ p ∈ before, p.block < W.heap.size := fun p hp => hW.lt p hp
 have hold : ∀ p ∈ before, (fun b => decide (b < W.heap.size)) p.block = true := fun p hp => by simpa using hlt p hp
 refine ⟨ds, gs, before, [], pa, pv, hW, hres _ _ _, hargs _ hold, hvars _ hold, World.keptBut_mono (fun p hp => ⟨hp, ?_⟩) (hb.frame (· ∈ before)), fun _ => ?_⟩
 ·rw [hps, List.mem_append] at hp
  exact Or.inr hp
 ·obtain ⟨_, _, _, _, _, hz, hn⟩ := hW
  refine ⟨hok, _, _, ([] ++ pa) ++ pv, ⟨[] ++ pa, pv, trodAll_append (hargs _ (fun _ _ => rfl)) (hres _ _ _), hvars _ (fun _ _ => rfl), rfl, ?_, ?_⟩, ?_⟩
  ·intro b off hp
   have hin : MemPlace.cell b off ∈ before := by rw [hps]; simpa using hp
   rw [hb.frozen (hlt _ hin)]
   exact hz b off hin
  ·intro ha
   have := hn ha
   rw [hps] at this
   simpa using this
  ·intro p hp _
   rw [hps]
   simpa using hp
end
end Go.Proofs.YtcaoblilkgajoaaDoor
end
section
namespace Go.Proofs.YtcaoblilkgajoaaDoor
open Go Go.ChangeShapes Go.WideShapes Go.ChangeAt Go.RowKit Go.Deep
theorem spot_noneM {w : World} {a : Addr} {v : Value} (h : w.cell? a = some v) : a = ⟨a.block, a.off, none⟩ := by
 obtain ⟨b, o, sp⟩ := a
 cases sp with
 | none => rfl
 | some s =>
   unfold World.cell? at h
   simp only at h
   split at h
   ·simp at h
   ·cases h
theorem addr_formM {w : World} {a : Addr} {v : Value} (h : w.cell? (a.add 0) = some v) : ∃ b o, a = ⟨b, o, none⟩ := ⟨_, _, spot_noneM h⟩
section
variable {H : Type} {enc : TypeId × Value → H} {w : World} {base : Nat} {spare : Nat → Bool} {held : Bool} {fuel : Nat}
theorem ints_of_trod {v : Value} {y : DataW H × List MemPlace} (h : DataW.trod enc Tryd.prog w base spare held fuel 22 [v] = some y) : ∃ (A : Option Addr) (n c : Nat) (xs : List Int), v = .slice A n c ∧ n ≤ maxLen ∧ IntsAt w A n xs := by
 rcases open_ints Tryd.underlying22 Tryd.underlying3 (by kernel_rfl) h with ⟨h1, _⟩ | ⟨a, len, cap, zs, h1, _, hl, hm, hsl, _, hc, _⟩
 ·obtain rfl : v = .slice none 0 0 := by simpa using h1
  exact ⟨none, 0, 0, [], rfl, by unfold maxLen; omega, RowAt.nil w⟩
 ·obtain rfl : v = .slice (some a) len cap := by simpa using h1
  have hle : len ≤ zs.length := by rw [hsl]; split <;> omega
  refine ⟨some a, len, cap, zs.take len, rfl, by omega, by simp; omega, fun hn => ?_⟩
  obtain ⟨b, o, rfl⟩ := addr_formM (hc 0 (by omega))
  refine ⟨b, o, rfl, fun j u hu => ?_⟩
  rw [List.getElem?_map] at hu
  obtain ⟨s, hs, rfl⟩ := Option.map_eq_some_iff.1 hu
  have hj : j < len := by
   rcases Nat.lt_or_ge j len with h | h
   ·exact h
   ·rw [List.getElem?_eq_none (by simp; omega)] at hs; cases hs
  have := hc j (by omega)
  rw [Addr.add_lit] at this
  rw [this]
  rw [List.getElem?_take_of_lt hj] at hs
  rw [List.getD_eq_getElem?_getD, hs]
  rfl
theorem int_of_trod {v : Value} {y : DataW H × List MemPlace} (h : DataW.trod enc Tryd.prog w base spare held fuel 3 [v] = some y) : ∃ n : Int, v = .int .i64 n ∧ -9223372036854775808 ≤ n ∧ n ≤ 9223372036854775807 := by
 obtain ⟨n, h1, _, hw⟩ := DataW.trod_int Tryd.underlying3 h
 obtain rfl : v = .int .i64 n := by simpa using h1
 refine ⟨n, rfl, ?_⟩
 simp only [Lit.wf, Bool.and_eq_true, decide_eq_true_eq] at hw
 have h1 : (IntKind.i64.min : Int) = -9223372036854775808 := by rfl
 have h2 : (IntKind.i64.max : Int) = 9223372036854775807 := by rfl
 rw [h1, h2] at hw
 exact hw
end
end Go.Proofs.YtcaoblilkgajoaaDoor
end
section
namespace Go.Proofs.YtcaoblilkgajoaaDoor
open Go Go.ChangeShapes Go.WideShapes Go.ChangeAt Go.RowKit Go.Deep
section
variable {H : Type} {enc : TypeId × Value → H} {w : World} {base : Nat} {spare : Nat → Bool} {held : Bool} {fuel : Nat}
set_option maxRecDepth 100000 in
theorem open_brc {r : Reach} {b0 : Nat} {v : Value} {d : DataW H} {p : List MemPlace} (hval : Value.okWide Tryd.prog w r b0 24 v) (h : DataW.Trod enc Tryd.prog w base spare held 24 v d p) :
 ∃ (s : Int) (A : Option Addr) (n c : Nat) (ws : List Int), v = .agg #[.int .i64 s, .slice A n c] ∧ n ≤ maxLen ∧ IntsAt w A n ws ∧ -9223372036854775808 ≤ s ∧ s ≤ 9223372036854775807 ∧ n ≤ c ∧ c ≤ maxLen := by
 obtain ⟨cs, rfl, hsz⟩ := okWide_struct Tryd.underlying24 hval
 obtain ⟨fuel, hf⟩ := h
 obtain ⟨c0, c1, rfl⟩ : ∃ c0 c1, cs = #[c0, c1] := by
  have h3 : cs.size = 2 := hsz.trans (by kernel_rfl)
  obtain ⟨l⟩ := cs
  match l, h3 with
  | [a, b], _ => exact ⟨a, b, rfl⟩
 have hf' : DataW.trod enc Tryd.prog w base spare held fuel 24 [c0, c1] = some (d, p) := hf
 obtain ⟨xs, n', _, _, _, hxl, hfld⟩ := DataW.trod_struct Tryd.underlying24 hf'
 have c22 : Tryd.prog.cellsOf 22 = 1 := by kernel_rfl
 have c3 : Tryd.prog.cellsOf 3 = 1 := by kernel_rfl
 have g0 : DataW.trod enc Tryd.prog w base spare held n' 3 (([c0, c1].drop 0).take (Tryd.prog.cellsOf 3)) = xs[0]? := hfld 0 _ rfl
 have g1 : DataW.trod enc Tryd.prog w base spare held n' 22 (([c0, c1].drop 1).take (Tryd.prog.cellsOf 22)) = xs[1]? := hfld 1 _ rfl
 rw [c22] at g1
 rw [c3] at g0
 simp only [List.drop_zero, List.drop_succ_cons, List.take_succ_cons, List.take_zero] at g0 g1
 have x0 : xs[0]? = some (xs[0]'(by rw [hxl]; decide)) := List.getElem?_eq_getElem _
 have x1 : xs[1]? = some (xs[1]'(by rw [hxl]; decide)) := List.getElem?_eq_getElem _
 rw [x0] at g0
 rw [x1] at g1
 obtain ⟨s, rfl, h1, h2⟩ := int_of_trod g0
 obtain ⟨A, n, c, ws, rfl, hn, hs⟩ := ints_of_trod g1
 have hc : n ≤ c ∧ c ≤ maxLen := by
  rcases open_ints Tryd.underlying22 Tryd.underlying3 (by kernel_rfl) g1 with ⟨h1, _⟩ | ⟨a', len', cap', zs, h1, _, hl, hm, hsl, _, hc, _⟩
  ·obtain ⟨_, rfl, rfl⟩ : A = none ∧ n = 0 ∧ c = 0 := by simpa using h1
   exact ⟨Nat.le_refl _, Nat.zero_le _⟩
  ·obtain ⟨_, rfl, rfl⟩ : A = some a' ∧ n = len' ∧ c = cap' := by simpa using h1
   exact ⟨by omega, by omega⟩
 exact ⟨s, A, n, c, ws, rfl, hn, hs, h1, h2, hc.1, hc.2⟩
end
end Go.Proofs.YtcaoblilkgajoaaDoor
end
section
namespace Go.Proofs.YtcaoblilkgajoaaDoor
open Go Go.RowKit
attribute [local go_sem ↓] Go.wp_at_zero Go.wp_at_succ
section
variable {s : Int} {ws : List Int} {t : Int} {pl : List Nat} {zi zr : List Int} {ex : Int}
end
theorem Row2.new {W : World} {g : Nat} {t : TypeId} {a b : Value} (h : W.heap.size = g) : Row (W.alloc (.cells #[a, b] t)) g t [a, b] := row_at h.symm
theorem Row2.s0 {W : World} {g : Nat} {t : TypeId} {a b v : Value} (h : Row W g t [a, b]) : Row (W.setCell ⟨g, 0, none⟩ v) g t [v, b] := h.set 0 v
theorem Row2.s1 {W : World} {g : Nat} {t : TypeId} {a b v : Value} (h : Row W g t [a, b]) : Row (W.setCell ⟨g, 1, none⟩ v) g t [a, v] := h.set 1 v
theorem RowT.alloc {w : World} {t : TypeId} {A : Option Addr} {n : Nat} {xs : List Value} (h : RowT w t A n xs) (o : Obj) : RowT (w.alloc o) t A n xs := h.keep ((Below.refl _ _).alloc (Nat.le_refl _) _)
structure B5 (w2 : World) (gx g4 g5 : Nat) (s : Int) (A : Option Addr) (n c : Nat) (t : Int) (Ap : Option Addr) (pl : List Nat) (Ai : Option Addr) (ci : Nat) (zi : List Int) (Ar : Option Addr) (cr : Nat) (zr : List Int) (W : World) : Prop where
 x : Row W gx 24 [.int .i64 s, .slice A n c]
 r4 : Row W g4 24 [.int .i64 t, .slice Ai zi.length ci]
 r5 : Row W g5 24 [.int .i64 t, .slice Ar zr.length cr]
 p : RowT W 3 Ap pl.length ((nats pl).map (.int .i64))
 i : RowT W 3 Ai zi.length (zi.map (.int .i64))
 r : RowT W 3 Ar zr.length (zr.map (.int .i64))
 bel : Below w2.heap.size w2 W
end Go.Proofs.YtcaoblilkgajoaaDoor
end
section
namespace Go.Proofs.YtcaoblilkgajoaaDoor
open Go Go.RowKit
attribute [local go_sem ↓] Go.wp_at_zero Go.wp_at_succ
structure LB (w : World) (L : List (Nat × List Value)) (T : List (Option Addr × Nat × List Int)) (W : World) : Prop where
 rows : ∀ p, p ∈ L → Row W p.1 24 p.2
 ints : ∀ q, q ∈ T → IntsAt W q.1 q.2.1 q.2.2
 bel : Below w.heap.size w W
section
variable {w W W' : World} {L : List (Nat × List Value)} {T : List (Option Addr × Nat × List Int)}
theorem LB.below (h : LB w L T W) (hb : Below W.heap.size W W') : LB w L T W' := ⟨fun p hp => (h.rows p hp).below hb, fun q hq => (h.ints q hq).keep hb, h.bel.trans (hb.mono h.bel.size)⟩
theorem LB.alloc (h : LB w L T W) (o : Obj) : LB w L T (W.alloc o) := h.below ((Below.refl _ _).alloc (Nat.le_refl _) o)
theorem LB.row (h : LB w L T W) {g : Nat} {a b : Value} (hm : (g, [a, b]) ∈ L) : W.cell? ⟨g, 0, none⟩ = some a ∧ W.cell? ⟨g, 1, none⟩ = some b ∧ ∀ o, W.frozen? ⟨g, o, none⟩ = false := box2b (h.rows _ hm)
theorem LB.int (h : LB w L T W) {A : Option Addr} {n : Nat} {xs : List Int} (hm : (A, n, xs) ∈ T) : IntsAt W A n xs := h.ints _ hm
theorem LB.addI (h : LB w L T W) {A : Option Addr} {n : Nat} {xs : List Int} (hi : IntsAt W A n xs) : LB w L ((A, n, xs) :: T) W := ⟨h.rows, fun q hq => by
 rcases List.mem_cons.1 hq with rfl | hq
 ·exact hi
 ·exact h.ints q hq, h.bel⟩
theorem LB.newR (h : LB w L T W) (x y : Value) : LB w ((W.heap.size, [x, y]) :: L) T (W.alloc (.cells #[x, y] 24)) := by
 have h2 := h.alloc (.cells #[x, y] 24)
 refine ⟨fun p hp => ?_, h2.ints, h2.bel⟩
 rcases List.mem_cons.1 hp with rfl | hp
 ·exact row_at (W := W) (g := W.heap.size) (t := 24) (vs := [x, y]) rfl
 ·exact h2.rows p hp
end
theorem LB.start (w : World) (a b c d e f : Value) (T : List (Option Addr × Nat × List Int)) (hT : ∀ q, q ∈ T → IntsAt w q.1 q.2.1 q.2.2) :
 LB w [(w.heap.size, [a, b]), (w.heap.size + 1, [c, d]), (w.heap.size + 1 + 1, [e, f])] T (((w.alloc (.cells #[a, b] 24)).alloc (.cells #[c, d] 24)).alloc (.cells #[e, f] 24)) := by
 have hb : Below w.heap.size w (((w.alloc (.cells #[a, b] 24)).alloc (.cells #[c, d] 24)).alloc (.cells #[e, f] 24)) := (((Below.refl _ _).alloc (Nat.le_refl _) _).alloc (by simp) _).alloc (by simp; omega) _
 have h0 := row_at (W := w) (g := w.heap.size) (t := 24) (vs := [a, b]) rfl
 have h1 := row_at (W := w.alloc (.cells #[a, b] 24)) (g := w.heap.size + 1) (t := 24) (vs := [c, d]) (by simp)
 have h2 := row_at (W := (w.alloc (.cells #[a, b] 24)).alloc (.cells #[c, d] 24)) (g := w.heap.size + 1 + 1) (t := 24) (vs := [e, f]) (by simp)
 refine ⟨fun p hp => ?_, fun q hq => (hT q hq).keep hb, hb⟩
 simp only [List.mem_cons, List.not_mem_nil, or_false] at hp
 rcases hp with rfl | rfl | rfl
 ·exact (h0.alloc _).alloc _
 ·exact h1.alloc _
 ·exact h2
structure KB (W0 W : World) : Prop where
 bel : Below W0.heap.size W0 W
theorem KB.refl (W : World) : KB W W := ⟨Below.refl _ _⟩
section
variable {W0 W W' w : World} {L : List (Nat × List Value)} {T : List (Option Addr × Nat × List Int)}
theorem KB.drew (h : KB W0 W) : KB W0 W.drew := ⟨h.bel.drew⟩
theorem KB.alloc (h : KB W0 W) (o : Obj) : KB W0 (W.alloc o) := ⟨h.bel.alloc h.bel.size o⟩
theorem KB.set {g o : Nat} {x : Value} (hg : W0.heap.size ≤ g) (h : KB W0 W) : KB W0 (W.setCell ⟨g, o, none⟩ x) := ⟨h.bel.setCell (p := ⟨g, o, none⟩) hg x⟩
theorem KB.lb (h : KB W0 W) (hL : LB w L T W0) : LB w L T W := hL.below h.bel
theorem KB.one (hL : LB w L T W0) {g : Nat} {a b : Value} (hm : (g, [a, b]) ∈ L) (h : KB W0 W) : W.cell? ⟨g, 0, none⟩ = some a ∧ W.cell? ⟨g, 1, none⟩ = some b ∧ KB W0 W := ⟨((h.lb hL).row hm).1, ((h.lb hL).row hm).2.1, h⟩
end
theorem LB.put {w W : World} {L : List (Nat × List Value)} {T : List (Option Addr × Nat × List Int)} (h : LB w L T W) {g : Nat} {x y : Value} (hr : Row W g 24 [x, y]) : LB w ((g, [x, y]) :: L) T W :=
 ⟨fun p hp => by
   rcases List.mem_cons.1 hp with rfl | hp
   ·exact hr
   ·exact h.rows p hp, h.ints, h.bel⟩
end Go.Proofs.YtcaoblilkgajoaaDoor
end
