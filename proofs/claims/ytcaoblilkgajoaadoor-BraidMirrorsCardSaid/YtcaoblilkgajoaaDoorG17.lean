/-
 The texts Bzm, Bzn in one.
-/
import Derived.Test.YtcaoblilkgajoaaDoorG16
set_option linter.unusedVariables false
set_option linter.unusedSimpArgs false
section
namespace Go.Proofs.YtcaoblilkgajoaaDoor
open Go Go.RowKit
attribute [local go_sem ↓] Go.wp_at_zero Go.wp_at_succ
theorem neg_step {sg : List Int} {n k : Nat} (hl : sg.length = n) (hk : k < n) : ((sg.take k).map (fun s => -s) ++ List.replicate (n - k) 0).set k (-(sg.getD k 0)) = (sg.take (k + 1)).map (fun s => -s) ++ List.replicate (n - (k + 1)) 0 := by
 have e : n - k = (n - (k + 1)) + 1 := by omega
 have ek : sg[k]? = some (sg.getD k 0) := by rw [List.getD_eq_getElem?_getD, List.getElem?_eq_getElem (by omega)]; rfl
 rw [e, List.replicate_succ, List.set_append_right _ _ (by simp; omega), List.length_map, List.length_take, Nat.min_eq_left (by omega), Nat.sub_self, List.set_cons_zero, Pl.take_one ek, List.map_append, List.append_assoc]
 rfl
theorem irow_at {W : World} {n g : Nat} (h : g = W.heap.size) : IRow (W.alloc (.cells (Array.replicate n (Value.int .i64 0)) 3)) g (List.replicate n 0) := by subst h; exact IRow.made W n
theorem IRow.alloc' {W : World} {g : Nat} {l : List Int} (h : IRow W g l) (o : Obj) : IRow (W.alloc o) g l := Row.alloc h o
theorem IRow.drew' {W : World} {g : Nat} {l : List Int} (h : IRow W g l) : IRow W.drew g l := Row.drew h
/-- What move answers. -/
def MovePost (tf : Nat → Nat) (d : Pl.Dg) (n m : Nat) (lp : Int) (w : World) (e : Ending) (w' : World) : Prop :=
 ∃ gS gM, e = .returned (.agg #[.slice (some ⟨gS, 0, none⟩) n n, .slice (some ⟨gM, 0, none⟩) m m, .int .i64 lp]) ∧ IRow w' gS (d.sg.map (fun s => -s)) ∧ IRow w' gM (nats (Pl.mvK tf d.mt m)) ∧ Below w.heap.size w w'
set_option maxRecDepth 100000 in
set_option maxHeartbeats 4000000 in
theorem moveM_any (d : Pl.Dg) (A B : Option Addr) (n cp m cq : Nat) (lp : Int) (A' B' : Option Addr) (cp' cq' m' : Nat) (l' : Value) (gc gd : Nat) (w : World) (hn : n = d.n) (hm : m = 4 * n) (hn64 : n ≤ 64) (hS : IntsAt w A n d.sg) (hT : IntsAt w B m (nats d.mt)) (hE : ExB d A' B' n cp' m' cq' l' gc gd w) (hsg : ∀ c, c < n → d.sg.getD c 0 = 1 ∨ d.sg.getD c 0 = -1) (hmt : ∀ h, h < m → d.mt.getD h 0 < m) (hto : ∀ h, h < m → Pl.toM d h < m) :
 Calls Tryd.prog 53 #[.agg #[.slice A n cp, .slice B m cq, .int .i64 lp], .func (.func 67) #[] #[.pointer (some ⟨gc, 0, none⟩), .pointer (some ⟨gd, 0, none⟩)], .func (.func 68) #[] #[.pointer (some ⟨gc, 0, none⟩)]] w (MovePost (Pl.toM d) d n m lp w) := by
 have HS := hide hS
 have HT := hide hT
 have HSG := hide hsg
 have HMT := hide hmt
 have HTO := hide hto
 have HLS := hide hS.len
 have HLT := hide (show d.mt.length = m by have := hT.len; rwa [nats_len] at this)
 have hm256 : m ≤ 256 := by omega
 have HNN := hide hn
 have HMN := hide hm
 have HE := hide hE
 have M0 := hide (show MB w A B n cp m cq lp (.func (.func 67) #[] #[.pointer (some ⟨gc, 0, none⟩), .pointer (some ⟨gd, 0, none⟩)]) (((w.alloc (.cells #[.slice A n cp, .slice B m cq, .int .i64 lp] 28)).alloc (.cells #[.func (.func 67) #[] #[.pointer (some ⟨gc, 0, none⟩), .pointer (some ⟨gd, 0, none⟩)]] 77)).alloc (.cells #[.slice none 0 0, .slice none 0 0, .int .i64 0] 28)) by
  have h0 := row_at (W := w) (g := w.heap.size) (t := 28) (vs := [.slice A n cp, .slice B m cq, .int .i64 lp]) rfl
  have h1 := row_at (W := w.alloc (.cells #[.slice A n cp, .slice B m cq, .int .i64 lp] 28)) (g := w.heap.size + 1) (t := 77) (vs := [.func (.func 67) #[] #[.pointer (some ⟨gc, 0, none⟩), .pointer (some ⟨gd, 0, none⟩)]]) (by simp)
  have h2 := row_at (W := (w.alloc (.cells #[.slice A n cp, .slice B m cq, .int .i64 lp] 28)).alloc (.cells #[.func (.func 67) #[] #[.pointer (some ⟨gc, 0, none⟩), .pointer (some ⟨gd, 0, none⟩)]] 77)) (g := w.heap.size + 1 + 1) (t := 28) (vs := [.slice none 0 0, .slice none 0 0, .int .i64 0]) (by simp)
  exact ⟨(h0.alloc _).alloc _, (h1.alloc _).cell (i := 0) (by simp), h2, (((Below.refl _ _).alloc (Nat.le_refl _) _).alloc (by simp) _).alloc (by simp; omega) _⟩)
 clear hS hT hsg hmt hto hn hm hE
 have mk1 := fun W : World => run_ints n (by omega) W
 have mk2 := fun W : World => run_ints m (by omega) W
 obtain ⟨d0, d1, d2, d3⟩ := box3 M0.out.d
 go_enter Tryd.func53, Tryd.ntmps53
 go_upto_region 2 with fail
 obtain ⟨w3, hw3⟩ : ∃ W, W = ((w.alloc (.cells #[.slice A n cp, .slice B m cq, .int .i64 lp] 28)).alloc (.cells #[.func (.func 67) #[] #[.pointer (some ⟨gc, 0, none⟩), .pointer (some ⟨gd, 0, none⟩)]] 77)).alloc (.cells #[.slice none 0 0, .slice none 0 0, .int .i64 0] 28) := ⟨_, rfl⟩
 rw [← hw3] at M0 d0 d1 d2 d3
 rw [← hw3]
 clear hw3
 have hz3 : w.heap.size + 1 + 1 < w3.heap.size := M0.out.o.lt
 go_cut [8] (fun s8 wx => ∃ gr gS gM : Nat, s8 = .pointer (some ⟨gr, 0, none⟩) ∧ MV w A B n cp m cq lp (.func (.func 67) #[] #[.pointer (some ⟨gc, 0, none⟩), .pointer (some ⟨gd, 0, none⟩)]) gr gS gM (List.replicate n 0) (List.replicate m 0) wx)
 case first =>
  go_region_held3 (fun w' => w'.cell? ⟨w.heap.size, 0, none⟩ = some (.slice A n cp) ∧ w'.cell? ⟨w.heap.size, 1, none⟩ = some (.slice B m cq) ∧ w'.cell? ⟨w.heap.size, 2, none⟩ = some (.int .i64 lp) ∧ KB w3 w')
   ((go_split_ands; refine KB.dg M0.out ?_; (repeat (first | (with_reducible assumption) | (with_reducible exact KB.refl _) | (with_reducible refine KB.drew ?_) | (with_reducible refine KB.alloc ?_ _) | (with_reducible refine KB.set ?_ ?_) | omega))))
   (fail)
  all_goals (go_wp2_with fail; go_meet)
  all_goals (have HKB := hide (‹_ ∧ _ ∧ _ ∧ KB w3 _›).2.2.2)
  all_goals first
   | (refine ⟨w3.heap.size + 1 + 1, w3.heap.size, w3.heap.size + 1, rfl, MV.made M0.out HKB.out.bel ?_ ?_ ?_ (by omega) (by omega) (by omega) (by omega) (by omega) (by omega)⟩; (repeat' (first | (with_reducible refine Row.drew ?_) | (with_reducible refine IRow.drew' ?_) | (refine row_at (vs := [.slice (some ⟨_, 0, none⟩) _ _, .slice (some ⟨_, 0, none⟩) _ _, .int .i64 _]) ?_; first | (with_reducible rfl) | (simp; done)) | (refine irow_at ?_; first | (with_reducible rfl) | (simp; done)) | (with_reducible refine Row.alloc ?_ _) | (with_reducible refine IRow.alloc' ?_ _))); done)
   | (refine ⟨w3.heap.size + 2, w3.heap.size, w3.heap.size + 1, rfl, MV.made M0.out HKB.out.bel ?_ ?_ ?_ (by omega) (by omega) (by omega) (by omega) (by omega) (by omega)⟩; (repeat' (first | (with_reducible refine Row.drew ?_) | (with_reducible refine IRow.drew' ?_) | (refine row_at (vs := [.slice (some ⟨_, 0, none⟩) _ _, .slice (some ⟨_, 0, none⟩) _ _, .int .i64 _]) ?_; first | (with_reducible rfl) | (simp; done)) | (refine irow_at ?_; first | (with_reducible rfl) | (simp; done)) | (with_reducible refine Row.alloc ?_ _) | (with_reducible refine IRow.alloc' ?_ _))); done)
   | (refine ⟨w3.heap.size + 1 + 1, w3.heap.size + 1, w3.heap.size, rfl, MV.made M0.out HKB.out.bel ?_ ?_ ?_ (by omega) (by omega) (by omega) (by omega) (by omega) (by omega)⟩; (repeat' (first | (with_reducible refine Row.drew ?_) | (with_reducible refine IRow.drew' ?_) | (refine row_at (vs := [.slice (some ⟨_, 0, none⟩) _ _, .slice (some ⟨_, 0, none⟩) _ _, .int .i64 _]) ?_; first | (with_reducible rfl) | (simp; done)) | (refine irow_at ?_; first | (with_reducible rfl) | (simp; done)) | (with_reducible refine Row.alloc ?_ _) | (with_reducible refine IRow.alloc' ?_ _))); done)
   | (refine ⟨w3.heap.size + 2, w3.heap.size + 1, w3.heap.size, rfl, MV.made M0.out HKB.out.bel ?_ ?_ ?_ (by omega) (by omega) (by omega) (by omega) (by omega) (by omega)⟩; (repeat' (first | (with_reducible refine Row.drew ?_) | (with_reducible refine IRow.drew' ?_) | (refine row_at (vs := [.slice (some ⟨_, 0, none⟩) _ _, .slice (some ⟨_, 0, none⟩) _ _, .int .i64 _]) ?_; first | (with_reducible rfl) | (simp; done)) | (refine irow_at ?_; first | (with_reducible rfl) | (simp; done)) | (with_reducible refine Row.alloc ?_ _) | (with_reducible refine IRow.alloc' ?_ _))); done)
   | (refine ⟨w3.heap.size + 1, w3.heap.size, w3.heap.size + 1 + 1, rfl, MV.made M0.out HKB.out.bel ?_ ?_ ?_ (by omega) (by omega) (by omega) (by omega) (by omega) (by omega)⟩; (repeat' (first | (with_reducible refine Row.drew ?_) | (with_reducible refine IRow.drew' ?_) | (refine row_at (vs := [.slice (some ⟨_, 0, none⟩) _ _, .slice (some ⟨_, 0, none⟩) _ _, .int .i64 _]) ?_; first | (with_reducible rfl) | (simp; done)) | (refine irow_at ?_; first | (with_reducible rfl) | (simp; done)) | (with_reducible refine Row.alloc ?_ _) | (with_reducible refine IRow.alloc' ?_ _))); done)
   | (refine ⟨w3.heap.size + 1, w3.heap.size, w3.heap.size + 2, rfl, MV.made M0.out HKB.out.bel ?_ ?_ ?_ (by omega) (by omega) (by omega) (by omega) (by omega) (by omega)⟩; (repeat' (first | (with_reducible refine Row.drew ?_) | (with_reducible refine IRow.drew' ?_) | (refine row_at (vs := [.slice (some ⟨_, 0, none⟩) _ _, .slice (some ⟨_, 0, none⟩) _ _, .int .i64 _]) ?_; first | (with_reducible rfl) | (simp; done)) | (refine irow_at ?_; first | (with_reducible rfl) | (simp; done)) | (with_reducible refine Row.alloc ?_ _) | (with_reducible refine IRow.alloc' ?_ _))); done)
   | (refine ⟨w3.heap.size + 1, w3.heap.size + 1 + 1, w3.heap.size, rfl, MV.made M0.out HKB.out.bel ?_ ?_ ?_ (by omega) (by omega) (by omega) (by omega) (by omega) (by omega)⟩; (repeat' (first | (with_reducible refine Row.drew ?_) | (with_reducible refine IRow.drew' ?_) | (refine row_at (vs := [.slice (some ⟨_, 0, none⟩) _ _, .slice (some ⟨_, 0, none⟩) _ _, .int .i64 _]) ?_; first | (with_reducible rfl) | (simp; done)) | (refine irow_at ?_; first | (with_reducible rfl) | (simp; done)) | (with_reducible refine Row.alloc ?_ _) | (with_reducible refine IRow.alloc' ?_ _))); done)
   | (refine ⟨w3.heap.size + 1, w3.heap.size + 2, w3.heap.size, rfl, MV.made M0.out HKB.out.bel ?_ ?_ ?_ (by omega) (by omega) (by omega) (by omega) (by omega) (by omega)⟩; (repeat' (first | (with_reducible refine Row.drew ?_) | (with_reducible refine IRow.drew' ?_) | (refine row_at (vs := [.slice (some ⟨_, 0, none⟩) _ _, .slice (some ⟨_, 0, none⟩) _ _, .int .i64 _]) ?_; first | (with_reducible rfl) | (simp; done)) | (refine irow_at ?_; first | (with_reducible rfl) | (simp; done)) | (with_reducible refine Row.alloc ?_ _) | (with_reducible refine IRow.alloc' ?_ _))); done)
   | (refine ⟨w3.heap.size, w3.heap.size + 1, w3.heap.size + 1 + 1, rfl, MV.made M0.out HKB.out.bel ?_ ?_ ?_ (by omega) (by omega) (by omega) (by omega) (by omega) (by omega)⟩; (repeat' (first | (with_reducible refine Row.drew ?_) | (with_reducible refine IRow.drew' ?_) | (refine row_at (vs := [.slice (some ⟨_, 0, none⟩) _ _, .slice (some ⟨_, 0, none⟩) _ _, .int .i64 _]) ?_; first | (with_reducible rfl) | (simp; done)) | (refine irow_at ?_; first | (with_reducible rfl) | (simp; done)) | (with_reducible refine Row.alloc ?_ _) | (with_reducible refine IRow.alloc' ?_ _))); done)
   | (refine ⟨w3.heap.size, w3.heap.size + 1, w3.heap.size + 2, rfl, MV.made M0.out HKB.out.bel ?_ ?_ ?_ (by omega) (by omega) (by omega) (by omega) (by omega) (by omega)⟩; (repeat' (first | (with_reducible refine Row.drew ?_) | (with_reducible refine IRow.drew' ?_) | (refine row_at (vs := [.slice (some ⟨_, 0, none⟩) _ _, .slice (some ⟨_, 0, none⟩) _ _, .int .i64 _]) ?_; first | (with_reducible rfl) | (simp; done)) | (refine irow_at ?_; first | (with_reducible rfl) | (simp; done)) | (with_reducible refine Row.alloc ?_ _) | (with_reducible refine IRow.alloc' ?_ _))); done)
   | (refine ⟨w3.heap.size, w3.heap.size + 1 + 1, w3.heap.size + 1, rfl, MV.made M0.out HKB.out.bel ?_ ?_ ?_ (by omega) (by omega) (by omega) (by omega) (by omega) (by omega)⟩; (repeat' (first | (with_reducible refine Row.drew ?_) | (with_reducible refine IRow.drew' ?_) | (refine row_at (vs := [.slice (some ⟨_, 0, none⟩) _ _, .slice (some ⟨_, 0, none⟩) _ _, .int .i64 _]) ?_; first | (with_reducible rfl) | (simp; done)) | (refine irow_at ?_; first | (with_reducible rfl) | (simp; done)) | (with_reducible refine Row.alloc ?_ _) | (with_reducible refine IRow.alloc' ?_ _))); done)
   | (refine ⟨w3.heap.size, w3.heap.size + 2, w3.heap.size + 1, rfl, MV.made M0.out HKB.out.bel ?_ ?_ ?_ (by omega) (by omega) (by omega) (by omega) (by omega) (by omega)⟩; (repeat' (first | (with_reducible refine Row.drew ?_) | (with_reducible refine IRow.drew' ?_) | (refine row_at (vs := [.slice (some ⟨_, 0, none⟩) _ _, .slice (some ⟨_, 0, none⟩) _ _, .int .i64 _]) ?_; first | (with_reducible rfl) | (simp; done)) | (refine irow_at ?_; first | (with_reducible rfl) | (simp; done)) | (with_reducible refine Row.alloc ?_ _) | (with_reducible refine IRow.alloc' ?_ _))); done)
 case rest =>
  clear mk1 mk2 d0 d1 d2 d3
  obtain ⟨gr, gS, gM, rfl, hV⟩ := hcut
  have V0 := hide hV
  clear hV M0
  obtain ⟨d0, d1, d2, d3⟩ := box3 V0.out.d
  go_wp2_with fail
  go_loopg [9, 10, 28] n (fun g _ _ ix wx => ∃ k : Nat, k + g = n ∧ ix = .int .i64 (k : Int) ∧ MV w A B n cp m cq lp (.func (.func 67) #[] #[.pointer (some ⟨gc, 0, none⟩), .pointer (some ⟨gd, 0, none⟩)]) gr gS gM ((d.sg.take k).map (fun s => -s) ++ List.replicate (n - k) 0) (List.replicate m 0) wx)
  case atStart => exact ⟨0, by omega, rfl, by simpa using V0.out⟩
  case round =>
   clear d0 d1 d2 d3 V0
   obtain ⟨k, hkg, rfl, hV⟩ := hrel
   have V1 := hide hV
   have HKG := hide hkg
   have hkn : k ≤ n := by omega
   clear hV hkg
   by_cases hlt : k < n
   ·have k0 : (0 : Int) ≤ (k : Int) := by omega
    have k1 : (k : Int) < (n : Int) := by omega
    obtain ⟨b, o, rfl, cs⟩ := (HS.out.keep V1.out.bel).at_ hlt
    obtain ⟨x, hx⟩ : ∃ x, x = d.sg.getD k 0 := ⟨_, rfl⟩
    rw [← hx] at cs
    have HX := hide hx
    have HX1 := hide (show x = 1 ∨ x = -1 by rw [hx]; exact HSG.out k hlt)
    clear hx
    obtain ⟨r0, r1, r2, r3⟩ := box3 V1.out.r
    have q1 := IRow.cell V1.out.s (i := k) (by simp [HLS.out]; omega)
    have q0 := Row.free V1.out.s
    go_upto_region 6 with fail
    refine wp_region_still_tail 9 (by kernel_rfl) (by kernel_rfl) ?_
    simp only [List.take_succ_cons, List.take_zero, List.drop_succ_cons, List.drop_zero]
    repeat still_step
    still_call (exsg_any gc k _ (HE.out.below V1.out.drew.bel).f)
    repeat still_step
    try refine wpStill_nil ?_
    change wpList _ _ _ _ _ wr.drew
    obtain ⟨wy, hwy⟩ : ∃ W : World, W = wr.drew := ⟨_, rfl⟩
    rw [← hwy]
    have V2 := hide (show MV w (some ⟨b, o, none⟩) B n cp m cq lp (.func (.func 67) #[] #[.pointer (some ⟨gc, 0, none⟩), .pointer (some ⟨gd, 0, none⟩)]) gr gS gM ((d.sg.take k).map (fun s => -s) ++ List.replicate (n - k) 0) (List.replicate m 0) wy by rw [hwy]; exact V1.out.drew)
    clear hwy V1 r0 r1 r2 r3 q0 q1 cs
    have q1 := IRow.cell V2.out.s (i := k) (by simp [HLS.out]; omega)
    have q0 := Row.free V2.out.s
    go_wp2_with fail
    go_roundg (gk - 1)
    case measure => have := HKG.out; omega
    case rel =>
     refine ⟨k + 1, by have := HKG.out; omega, by go_num, ?_⟩
     rw [← neg_step HLS.out hlt, ← HX.out]
     have hw : wrap64 (-x) = -x := IntWalk.wrap64_in _ (by rcases HX1.out with e | e <;> rw [e] <;> omega)
     have hV := V2.out.setS k (-x)
     first
      | exact hV
      | (rw [hw]; exact hV)
   ·have hge : ¬ ((k : Int) < (n : Int)) := by omega
    have hk : k = n := by omega
    have V3 := hide (show MV w A B n cp m cq lp (.func (.func 67) #[] #[.pointer (some ⟨gc, 0, none⟩), .pointer (some ⟨gd, 0, none⟩)]) gr gS gM (d.sg.map (fun s => -s)) (List.replicate m 0) wr by
     have h := V1.out
     rw [hk, Nat.sub_self, List.take_of_length_le (by rw [HLS.out]; exact Nat.le_refl _), List.replicate_zero, List.append_nil] at h
     exact h)
    clear hk hlt HKG V1 hkn
    obtain ⟨d0, d1, d2, d3⟩ := box3 V3.out.d
    go_wp2_with fail
    go_loopg [11, 12, 46] m (fun g _ _ ix wx => ∃ j : Nat, j + g = m ∧ ix = .int .i64 (j : Int) ∧ MV w A B n cp m cq lp (.func (.func 67) #[] #[.pointer (some ⟨gc, 0, none⟩), .pointer (some ⟨gd, 0, none⟩)]) gr gS gM (d.sg.map (fun s => -s)) (nats (Pl.mvK (Pl.toM d) d.mt j)) wx)
    case atStart =>
     refine ⟨0, by omega, rfl, ?_⟩
     have h : nats (Pl.mvK (Pl.toM d) d.mt 0) = List.replicate m 0 := by
      show nats (List.replicate d.mt.length 0) = _
      rw [HLT.out]
      simp [nats]
     rw [h]
     exact V3.out
    case round =>
     clear d0 d1 d2 d3 V3
     obtain ⟨j, hjg, rfl, hV⟩ := hrel
     have V1 := hide hV
     have HJG := hide hjg
     have hjm : j ≤ m := by omega
     clear hV hjg hge
     by_cases hlt : j < m
     ·have j0 : (0 : Int) ≤ (j : Int) := by omega
      have j1 : (j : Int) < (m : Int) := by omega
      obtain ⟨b, o, rfl, cs⟩ := nats_at (HT.out.keep V1.out.bel) (k := j) hlt
      obtain ⟨x, hx⟩ : ∃ x, x = d.mt.getD j 0 := ⟨_, rfl⟩
      rw [← hx] at cs
      have HX := hide hx
      have hxm : x < m := by rw [hx]; exact HMT.out j hlt
      clear hx
      have t1 : ((Pl.toM d j : Nat) : Int) < (m : Int) := by have := HTO.out j hlt; omega
      have t0 : (0 : Int) ≤ ((Pl.toM d j : Nat) : Int) := by omega
      obtain ⟨r0, r1, r2, r3⟩ := box3 V1.out.r
      have q1 := IRow.cell V1.out.t (i := Pl.toM d j) (by rw [nats_len, Pl.mvK_len, HLT.out]; omega)
      have q0 := Row.free V1.out.t
      go_upto_region 11 with fail
      refine wp_region_still_tail 9 (by kernel_rfl) (by kernel_rfl) ?_
      simp only [List.take_succ_cons, List.take_zero, List.drop_succ_cons, List.drop_zero]
      repeat still_step
      still_call (toM_any d A' B' n cp' m' cq' l' gc gd (w.heap.size + 1) j _ V1.out.drew.b (HE.out.below V1.out.drew.bel) (by omega) (by have := HMN.out; omega))
      repeat still_step
      still_call (toM_any d A' B' n cp' m' cq' l' gc gd (w.heap.size + 1) x _ V1.out.drew.b (HE.out.below V1.out.drew.bel) (by omega) (by have := HMN.out; omega))
      repeat still_step
      try refine wpStill_nil ?_
      change wpList _ _ _ _ _ wr.drew
      obtain ⟨wy, hwy⟩ : ∃ W : World, W = wr.drew := ⟨_, rfl⟩
      rw [← hwy]
      have V2 := hide (show MV w A (some ⟨b, o, none⟩) n cp m cq lp (.func (.func 67) #[] #[.pointer (some ⟨gc, 0, none⟩), .pointer (some ⟨gd, 0, none⟩)]) gr gS gM (d.sg.map (fun s => -s)) (nats (Pl.mvK (Pl.toM d) d.mt j)) wy by rw [hwy]; exact V1.out.drew)
      clear hwy V1 r0 r1 r2 r3 q0 q1 cs
      have q1 := IRow.cell V2.out.t (i := Pl.toM d j) (by rw [nats_len, Pl.mvK_len, HLT.out]; omega)
      have q0 := Row.free V2.out.t
      go_wp2_with fail
      go_roundg (gk - 1)
      case measure => have := HJG.out; omega
      case rel =>
       refine ⟨j + 1, by have := HJG.out; omega, by go_num, ?_⟩
       have h : nats (Pl.mvK (Pl.toM d) d.mt (j + 1)) = (nats (Pl.mvK (Pl.toM d) d.mt j)).set (Pl.toM d j) ((Pl.toM d x : Nat) : Int) := by
        rw [HX.out]
        exact List.map_set
       rw [h]
       exact V2.out.setT (Pl.toM d j) ((Pl.toM d x : Nat) : Int)
     ·have hge : ¬ ((j : Int) < (m : Int)) := by omega
      have hj : j = m := by omega
      have V3 := hide (show MV w A B n cp m cq lp (.func (.func 67) #[] #[.pointer (some ⟨gc, 0, none⟩), .pointer (some ⟨gd, 0, none⟩)]) gr gS gM (d.sg.map (fun s => -s)) (nats (Pl.mvK (Pl.toM d) d.mt m)) wr by
       have h := V1.out
       rw [hj] at h
       exact h)
      clear hj hlt HJG V1 hjm
      obtain ⟨r0, r1, r2, r3⟩ := box3 V3.out.r
      obtain ⟨o0, o1, o2, o3⟩ := box3 V3.out.o
      go_wp2
      (try simp only [Exit.inBlock, Exit.then])
      refine bodyPost_ret (results_cell_row rfl _ _ (w.heap.size + 1 + 1) 28 _ _ _ rfl (((V3.out.o.set 0 _).set 1 _).set 2 _) Tryd.underlying28 rfl (by kernel_rfl)) rfl ?_
      have hl := V3.out.lo
      refine ⟨gS, gM, rfl, Row.other (Row.other (Row.other V3.out.s ?_ _) ?_ _) ?_ _, Row.other (Row.other (Row.other V3.out.t ?_ _) ?_ _) ?_ _, ((V3.out.bel.setCell ?_ _).setCell ?_ _).setCell ?_ _⟩
      all_goals (first | (show gS ≠ w.heap.size + 1 + 1; omega) | (show gM ≠ w.heap.size + 1 + 1; omega) | (show w.heap.size ≤ w.heap.size + 1 + 1; omega))
set_option maxRecDepth 100000 in
set_option maxHeartbeats 4000000 in
theorem moveR_any (d : Pl.Dg) (A B : Option Addr) (n cp m cq : Nat) (lp : Int) (w : World) (hn : n = d.n) (hm : m = 4 * n) (hn64 : n ≤ 64) (hS : IntsAt w A n d.sg) (hT : IntsAt w B m (nats d.mt)) (hsg : ∀ c, c < n → d.sg.getD c 0 = 1 ∨ d.sg.getD c 0 = -1) (hmt : ∀ h, h < m → d.mt.getD h 0 < m) (hto : ∀ h, h < m → Pl.toR h < m) :
 Calls Tryd.prog 53 #[.agg #[.slice A n cp, .slice B m cq, .int .i64 lp], .func (.func 52) #[] #[], .func (.func 54) #[] #[]] w (MovePost Pl.toR d n m lp w) := by
 have HS := hide hS
 have HT := hide hT
 have HSG := hide hsg
 have HMT := hide hmt
 have HTO := hide hto
 have HLS := hide hS.len
 have HLT := hide (show d.mt.length = m by have := hT.len; rwa [nats_len] at this)
 have hm256 : m ≤ 256 := by omega
 have HNN := hide hn
 have HMN := hide hm
 have M0 := hide (show MB w A B n cp m cq lp (.func (.func 52) #[] #[]) (((w.alloc (.cells #[.slice A n cp, .slice B m cq, .int .i64 lp] 28)).alloc (.cells #[.func (.func 52) #[] #[]] 77)).alloc (.cells #[.slice none 0 0, .slice none 0 0, .int .i64 0] 28)) by
  have h0 := row_at (W := w) (g := w.heap.size) (t := 28) (vs := [.slice A n cp, .slice B m cq, .int .i64 lp]) rfl
  have h1 := row_at (W := w.alloc (.cells #[.slice A n cp, .slice B m cq, .int .i64 lp] 28)) (g := w.heap.size + 1) (t := 77) (vs := [.func (.func 52) #[] #[]]) (by simp)
  have h2 := row_at (W := (w.alloc (.cells #[.slice A n cp, .slice B m cq, .int .i64 lp] 28)).alloc (.cells #[.func (.func 52) #[] #[]] 77)) (g := w.heap.size + 1 + 1) (t := 28) (vs := [.slice none 0 0, .slice none 0 0, .int .i64 0]) (by simp)
  exact ⟨(h0.alloc _).alloc _, (h1.alloc _).cell (i := 0) (by simp), h2, (((Below.refl _ _).alloc (Nat.le_refl _) _).alloc (by simp) _).alloc (by simp; omega) _⟩)
 clear hS hT hsg hmt hto hn hm 
 have mk1 := fun W : World => run_ints n (by omega) W
 have mk2 := fun W : World => run_ints m (by omega) W
 obtain ⟨d0, d1, d2, d3⟩ := box3 M0.out.d
 go_enter Tryd.func53, Tryd.ntmps53
 go_upto_region 2 with fail
 obtain ⟨w3, hw3⟩ : ∃ W, W = ((w.alloc (.cells #[.slice A n cp, .slice B m cq, .int .i64 lp] 28)).alloc (.cells #[.func (.func 52) #[] #[]] 77)).alloc (.cells #[.slice none 0 0, .slice none 0 0, .int .i64 0] 28) := ⟨_, rfl⟩
 rw [← hw3] at M0 d0 d1 d2 d3
 rw [← hw3]
 clear hw3
 have hz3 : w.heap.size + 1 + 1 < w3.heap.size := M0.out.o.lt
 go_cut [8] (fun s8 wx => ∃ gr gS gM : Nat, s8 = .pointer (some ⟨gr, 0, none⟩) ∧ MV w A B n cp m cq lp (.func (.func 52) #[] #[]) gr gS gM (List.replicate n 0) (List.replicate m 0) wx)
 case first =>
  go_region_held3 (fun w' => w'.cell? ⟨w.heap.size, 0, none⟩ = some (.slice A n cp) ∧ w'.cell? ⟨w.heap.size, 1, none⟩ = some (.slice B m cq) ∧ w'.cell? ⟨w.heap.size, 2, none⟩ = some (.int .i64 lp) ∧ KB w3 w')
   ((go_split_ands; refine KB.dg M0.out ?_; (repeat (first | (with_reducible assumption) | (with_reducible exact KB.refl _) | (with_reducible refine KB.drew ?_) | (with_reducible refine KB.alloc ?_ _) | (with_reducible refine KB.set ?_ ?_) | omega))))
   (fail)
  all_goals (go_wp2_with fail; go_meet)
  all_goals (have HKB := hide (‹_ ∧ _ ∧ _ ∧ KB w3 _›).2.2.2)
  all_goals first
   | (refine ⟨w3.heap.size + 1 + 1, w3.heap.size, w3.heap.size + 1, rfl, MV.made M0.out HKB.out.bel ?_ ?_ ?_ (by omega) (by omega) (by omega) (by omega) (by omega) (by omega)⟩; (repeat' (first | (with_reducible refine Row.drew ?_) | (with_reducible refine IRow.drew' ?_) | (refine row_at (vs := [.slice (some ⟨_, 0, none⟩) _ _, .slice (some ⟨_, 0, none⟩) _ _, .int .i64 _]) ?_; first | (with_reducible rfl) | (simp; done)) | (refine irow_at ?_; first | (with_reducible rfl) | (simp; done)) | (with_reducible refine Row.alloc ?_ _) | (with_reducible refine IRow.alloc' ?_ _))); done)
   | (refine ⟨w3.heap.size + 2, w3.heap.size, w3.heap.size + 1, rfl, MV.made M0.out HKB.out.bel ?_ ?_ ?_ (by omega) (by omega) (by omega) (by omega) (by omega) (by omega)⟩; (repeat' (first | (with_reducible refine Row.drew ?_) | (with_reducible refine IRow.drew' ?_) | (refine row_at (vs := [.slice (some ⟨_, 0, none⟩) _ _, .slice (some ⟨_, 0, none⟩) _ _, .int .i64 _]) ?_; first | (with_reducible rfl) | (simp; done)) | (refine irow_at ?_; first | (with_reducible rfl) | (simp; done)) | (with_reducible refine Row.alloc ?_ _) | (with_reducible refine IRow.alloc' ?_ _))); done)
   | (refine ⟨w3.heap.size + 1 + 1, w3.heap.size + 1, w3.heap.size, rfl, MV.made M0.out HKB.out.bel ?_ ?_ ?_ (by omega) (by omega) (by omega) (by omega) (by omega) (by omega)⟩; (repeat' (first | (with_reducible refine Row.drew ?_) | (with_reducible refine IRow.drew' ?_) | (refine row_at (vs := [.slice (some ⟨_, 0, none⟩) _ _, .slice (some ⟨_, 0, none⟩) _ _, .int .i64 _]) ?_; first | (with_reducible rfl) | (simp; done)) | (refine irow_at ?_; first | (with_reducible rfl) | (simp; done)) | (with_reducible refine Row.alloc ?_ _) | (with_reducible refine IRow.alloc' ?_ _))); done)
   | (refine ⟨w3.heap.size + 2, w3.heap.size + 1, w3.heap.size, rfl, MV.made M0.out HKB.out.bel ?_ ?_ ?_ (by omega) (by omega) (by omega) (by omega) (by omega) (by omega)⟩; (repeat' (first | (with_reducible refine Row.drew ?_) | (with_reducible refine IRow.drew' ?_) | (refine row_at (vs := [.slice (some ⟨_, 0, none⟩) _ _, .slice (some ⟨_, 0, none⟩) _ _, .int .i64 _]) ?_; first | (with_reducible rfl) | (simp; done)) | (refine irow_at ?_; first | (with_reducible rfl) | (simp; done)) | (with_reducible refine Row.alloc ?_ _) | (with_reducible refine IRow.alloc' ?_ _))); done)
   | (refine ⟨w3.heap.size + 1, w3.heap.size, w3.heap.size + 1 + 1, rfl, MV.made M0.out HKB.out.bel ?_ ?_ ?_ (by omega) (by omega) (by omega) (by omega) (by omega) (by omega)⟩; (repeat' (first | (with_reducible refine Row.drew ?_) | (with_reducible refine IRow.drew' ?_) | (refine row_at (vs := [.slice (some ⟨_, 0, none⟩) _ _, .slice (some ⟨_, 0, none⟩) _ _, .int .i64 _]) ?_; first | (with_reducible rfl) | (simp; done)) | (refine irow_at ?_; first | (with_reducible rfl) | (simp; done)) | (with_reducible refine Row.alloc ?_ _) | (with_reducible refine IRow.alloc' ?_ _))); done)
   | (refine ⟨w3.heap.size + 1, w3.heap.size, w3.heap.size + 2, rfl, MV.made M0.out HKB.out.bel ?_ ?_ ?_ (by omega) (by omega) (by omega) (by omega) (by omega) (by omega)⟩; (repeat' (first | (with_reducible refine Row.drew ?_) | (with_reducible refine IRow.drew' ?_) | (refine row_at (vs := [.slice (some ⟨_, 0, none⟩) _ _, .slice (some ⟨_, 0, none⟩) _ _, .int .i64 _]) ?_; first | (with_reducible rfl) | (simp; done)) | (refine irow_at ?_; first | (with_reducible rfl) | (simp; done)) | (with_reducible refine Row.alloc ?_ _) | (with_reducible refine IRow.alloc' ?_ _))); done)
   | (refine ⟨w3.heap.size + 1, w3.heap.size + 1 + 1, w3.heap.size, rfl, MV.made M0.out HKB.out.bel ?_ ?_ ?_ (by omega) (by omega) (by omega) (by omega) (by omega) (by omega)⟩; (repeat' (first | (with_reducible refine Row.drew ?_) | (with_reducible refine IRow.drew' ?_) | (refine row_at (vs := [.slice (some ⟨_, 0, none⟩) _ _, .slice (some ⟨_, 0, none⟩) _ _, .int .i64 _]) ?_; first | (with_reducible rfl) | (simp; done)) | (refine irow_at ?_; first | (with_reducible rfl) | (simp; done)) | (with_reducible refine Row.alloc ?_ _) | (with_reducible refine IRow.alloc' ?_ _))); done)
   | (refine ⟨w3.heap.size + 1, w3.heap.size + 2, w3.heap.size, rfl, MV.made M0.out HKB.out.bel ?_ ?_ ?_ (by omega) (by omega) (by omega) (by omega) (by omega) (by omega)⟩; (repeat' (first | (with_reducible refine Row.drew ?_) | (with_reducible refine IRow.drew' ?_) | (refine row_at (vs := [.slice (some ⟨_, 0, none⟩) _ _, .slice (some ⟨_, 0, none⟩) _ _, .int .i64 _]) ?_; first | (with_reducible rfl) | (simp; done)) | (refine irow_at ?_; first | (with_reducible rfl) | (simp; done)) | (with_reducible refine Row.alloc ?_ _) | (with_reducible refine IRow.alloc' ?_ _))); done)
   | (refine ⟨w3.heap.size, w3.heap.size + 1, w3.heap.size + 1 + 1, rfl, MV.made M0.out HKB.out.bel ?_ ?_ ?_ (by omega) (by omega) (by omega) (by omega) (by omega) (by omega)⟩; (repeat' (first | (with_reducible refine Row.drew ?_) | (with_reducible refine IRow.drew' ?_) | (refine row_at (vs := [.slice (some ⟨_, 0, none⟩) _ _, .slice (some ⟨_, 0, none⟩) _ _, .int .i64 _]) ?_; first | (with_reducible rfl) | (simp; done)) | (refine irow_at ?_; first | (with_reducible rfl) | (simp; done)) | (with_reducible refine Row.alloc ?_ _) | (with_reducible refine IRow.alloc' ?_ _))); done)
   | (refine ⟨w3.heap.size, w3.heap.size + 1, w3.heap.size + 2, rfl, MV.made M0.out HKB.out.bel ?_ ?_ ?_ (by omega) (by omega) (by omega) (by omega) (by omega) (by omega)⟩; (repeat' (first | (with_reducible refine Row.drew ?_) | (with_reducible refine IRow.drew' ?_) | (refine row_at (vs := [.slice (some ⟨_, 0, none⟩) _ _, .slice (some ⟨_, 0, none⟩) _ _, .int .i64 _]) ?_; first | (with_reducible rfl) | (simp; done)) | (refine irow_at ?_; first | (with_reducible rfl) | (simp; done)) | (with_reducible refine Row.alloc ?_ _) | (with_reducible refine IRow.alloc' ?_ _))); done)
   | (refine ⟨w3.heap.size, w3.heap.size + 1 + 1, w3.heap.size + 1, rfl, MV.made M0.out HKB.out.bel ?_ ?_ ?_ (by omega) (by omega) (by omega) (by omega) (by omega) (by omega)⟩; (repeat' (first | (with_reducible refine Row.drew ?_) | (with_reducible refine IRow.drew' ?_) | (refine row_at (vs := [.slice (some ⟨_, 0, none⟩) _ _, .slice (some ⟨_, 0, none⟩) _ _, .int .i64 _]) ?_; first | (with_reducible rfl) | (simp; done)) | (refine irow_at ?_; first | (with_reducible rfl) | (simp; done)) | (with_reducible refine Row.alloc ?_ _) | (with_reducible refine IRow.alloc' ?_ _))); done)
   | (refine ⟨w3.heap.size, w3.heap.size + 2, w3.heap.size + 1, rfl, MV.made M0.out HKB.out.bel ?_ ?_ ?_ (by omega) (by omega) (by omega) (by omega) (by omega) (by omega)⟩; (repeat' (first | (with_reducible refine Row.drew ?_) | (with_reducible refine IRow.drew' ?_) | (refine row_at (vs := [.slice (some ⟨_, 0, none⟩) _ _, .slice (some ⟨_, 0, none⟩) _ _, .int .i64 _]) ?_; first | (with_reducible rfl) | (simp; done)) | (refine irow_at ?_; first | (with_reducible rfl) | (simp; done)) | (with_reducible refine Row.alloc ?_ _) | (with_reducible refine IRow.alloc' ?_ _))); done)
 case rest =>
  clear mk1 mk2 d0 d1 d2 d3
  obtain ⟨gr, gS, gM, rfl, hV⟩ := hcut
  have V0 := hide hV
  clear hV M0
  obtain ⟨d0, d1, d2, d3⟩ := box3 V0.out.d
  go_wp2_with fail
  go_loopg [9, 10, 28] n (fun g _ _ ix wx => ∃ k : Nat, k + g = n ∧ ix = .int .i64 (k : Int) ∧ MV w A B n cp m cq lp (.func (.func 52) #[] #[]) gr gS gM ((d.sg.take k).map (fun s => -s) ++ List.replicate (n - k) 0) (List.replicate m 0) wx)
  case atStart => exact ⟨0, by omega, rfl, by simpa using V0.out⟩
  case round =>
   clear d0 d1 d2 d3 V0
   obtain ⟨k, hkg, rfl, hV⟩ := hrel
   have V1 := hide hV
   have HKG := hide hkg
   have hkn : k ≤ n := by omega
   clear hV hkg
   by_cases hlt : k < n
   ·have k0 : (0 : Int) ≤ (k : Int) := by omega
    have k1 : (k : Int) < (n : Int) := by omega
    obtain ⟨b, o, rfl, cs⟩ := (HS.out.keep V1.out.bel).at_ hlt
    obtain ⟨x, hx⟩ : ∃ x, x = d.sg.getD k 0 := ⟨_, rfl⟩
    rw [← hx] at cs
    have HX := hide hx
    have HX1 := hide (show x = 1 ∨ x = -1 by rw [hx]; exact HSG.out k hlt)
    clear hx
    obtain ⟨r0, r1, r2, r3⟩ := box3 V1.out.r
    have q1 := IRow.cell V1.out.s (i := k) (by simp [HLS.out]; omega)
    have q0 := Row.free V1.out.s
    go_upto_region 6 with fail
    refine wp_region_still_tail 9 (by kernel_rfl) (by kernel_rfl) ?_
    simp only [List.take_succ_cons, List.take_zero, List.drop_succ_cons, List.drop_zero]
    repeat still_step
    still_call (rfsg_any (k : Int) _)
    repeat still_step
    try refine wpStill_nil ?_
    change wpList _ _ _ _ _ wr.drew
    obtain ⟨wy, hwy⟩ : ∃ W : World, W = wr.drew := ⟨_, rfl⟩
    rw [← hwy]
    have V2 := hide (show MV w (some ⟨b, o, none⟩) B n cp m cq lp (.func (.func 52) #[] #[]) gr gS gM ((d.sg.take k).map (fun s => -s) ++ List.replicate (n - k) 0) (List.replicate m 0) wy by rw [hwy]; exact V1.out.drew)
    clear hwy V1 r0 r1 r2 r3 q0 q1 cs
    have q1 := IRow.cell V2.out.s (i := k) (by simp [HLS.out]; omega)
    have q0 := Row.free V2.out.s
    go_wp2_with fail
    go_roundg (gk - 1)
    case measure => have := HKG.out; omega
    case rel =>
     refine ⟨k + 1, by have := HKG.out; omega, by go_num, ?_⟩
     rw [← neg_step HLS.out hlt, ← HX.out]
     have hw : wrap64 (-x) = -x := IntWalk.wrap64_in _ (by rcases HX1.out with e | e <;> rw [e] <;> omega)
     have hV := V2.out.setS k (-x)
     first
      | exact hV
      | (rw [hw]; exact hV)
   ·have hge : ¬ ((k : Int) < (n : Int)) := by omega
    have hk : k = n := by omega
    have V3 := hide (show MV w A B n cp m cq lp (.func (.func 52) #[] #[]) gr gS gM (d.sg.map (fun s => -s)) (List.replicate m 0) wr by
     have h := V1.out
     rw [hk, Nat.sub_self, List.take_of_length_le (by rw [HLS.out]; exact Nat.le_refl _), List.replicate_zero, List.append_nil] at h
     exact h)
    clear hk hlt HKG V1 hkn
    obtain ⟨d0, d1, d2, d3⟩ := box3 V3.out.d
    go_wp2_with fail
    go_loopg [11, 12, 46] m (fun g _ _ ix wx => ∃ j : Nat, j + g = m ∧ ix = .int .i64 (j : Int) ∧ MV w A B n cp m cq lp (.func (.func 52) #[] #[]) gr gS gM (d.sg.map (fun s => -s)) (nats (Pl.mvK Pl.toR d.mt j)) wx)
    case atStart =>
     refine ⟨0, by omega, rfl, ?_⟩
     have h : nats (Pl.mvK Pl.toR d.mt 0) = List.replicate m 0 := by
      show nats (List.replicate d.mt.length 0) = _
      rw [HLT.out]
      simp [nats]
     rw [h]
     exact V3.out
    case round =>
     clear d0 d1 d2 d3 V3
     obtain ⟨j, hjg, rfl, hV⟩ := hrel
     have V1 := hide hV
     have HJG := hide hjg
     have hjm : j ≤ m := by omega
     clear hV hjg hge
     by_cases hlt : j < m
     ·have j0 : (0 : Int) ≤ (j : Int) := by omega
      have j1 : (j : Int) < (m : Int) := by omega
      obtain ⟨b, o, rfl, cs⟩ := nats_at (HT.out.keep V1.out.bel) (k := j) hlt
      obtain ⟨x, hx⟩ : ∃ x, x = d.mt.getD j 0 := ⟨_, rfl⟩
      rw [← hx] at cs
      have HX := hide hx
      have hxm : x < m := by rw [hx]; exact HMT.out j hlt
      clear hx
      have t1 : ((Pl.toR j : Nat) : Int) < (m : Int) := by have := HTO.out j hlt; omega
      have t0 : (0 : Int) ≤ ((Pl.toR j : Nat) : Int) := by omega
      obtain ⟨r0, r1, r2, r3⟩ := box3 V1.out.r
      have q1 := IRow.cell V1.out.t (i := Pl.toR j) (by rw [nats_len, Pl.mvK_len, HLT.out]; omega)
      have q0 := Row.free V1.out.t
      go_upto_region 11 with fail
      refine wp_region_still_tail 9 (by kernel_rfl) (by kernel_rfl) ?_
      simp only [List.take_succ_cons, List.take_zero, List.drop_succ_cons, List.drop_zero]
      repeat still_step
      still_call (toR_any (w.heap.size + 1) j _ V1.out.drew.b (by omega))
      repeat still_step
      still_call (toR_any (w.heap.size + 1) x _ V1.out.drew.b (by omega))
      repeat still_step
      try refine wpStill_nil ?_
      change wpList _ _ _ _ _ wr.drew
      obtain ⟨wy, hwy⟩ : ∃ W : World, W = wr.drew := ⟨_, rfl⟩
      rw [← hwy]
      have V2 := hide (show MV w A (some ⟨b, o, none⟩) n cp m cq lp (.func (.func 52) #[] #[]) gr gS gM (d.sg.map (fun s => -s)) (nats (Pl.mvK Pl.toR d.mt j)) wy by rw [hwy]; exact V1.out.drew)
      clear hwy V1 r0 r1 r2 r3 q0 q1 cs
      have q1 := IRow.cell V2.out.t (i := Pl.toR j) (by rw [nats_len, Pl.mvK_len, HLT.out]; omega)
      have q0 := Row.free V2.out.t
      go_wp2_with fail
      go_roundg (gk - 1)
      case measure => have := HJG.out; omega
      case rel =>
       refine ⟨j + 1, by have := HJG.out; omega, by go_num, ?_⟩
       have h : nats (Pl.mvK Pl.toR d.mt (j + 1)) = (nats (Pl.mvK Pl.toR d.mt j)).set (Pl.toR j) ((Pl.toR x : Nat) : Int) := by
        rw [HX.out]
        exact List.map_set
       rw [h]
       exact V2.out.setT (Pl.toR j) ((Pl.toR x : Nat) : Int)
     ·have hge : ¬ ((j : Int) < (m : Int)) := by omega
      have hj : j = m := by omega
      have V3 := hide (show MV w A B n cp m cq lp (.func (.func 52) #[] #[]) gr gS gM (d.sg.map (fun s => -s)) (nats (Pl.mvK Pl.toR d.mt m)) wr by
       have h := V1.out
       rw [hj] at h
       exact h)
      clear hj hlt HJG V1 hjm
      obtain ⟨r0, r1, r2, r3⟩ := box3 V3.out.r
      obtain ⟨o0, o1, o2, o3⟩ := box3 V3.out.o
      go_wp2
      (try simp only [Exit.inBlock, Exit.then])
      refine bodyPost_ret (results_cell_row rfl _ _ (w.heap.size + 1 + 1) 28 _ _ _ rfl (((V3.out.o.set 0 _).set 1 _).set 2 _) Tryd.underlying28 rfl (by kernel_rfl)) rfl ?_
      have hl := V3.out.lo
      refine ⟨gS, gM, rfl, Row.other (Row.other (Row.other V3.out.s ?_ _) ?_ _) ?_ _, Row.other (Row.other (Row.other V3.out.t ?_ _) ?_ _) ?_ _, ((V3.out.bel.setCell ?_ _).setCell ?_ _).setCell ?_ _⟩
      all_goals (first | (show gS ≠ w.heap.size + 1 + 1; omega) | (show gM ≠ w.heap.size + 1 + 1; omega) | (show w.heap.size ≤ w.heap.size + 1 + 1; omega))
end Go.Proofs.YtcaoblilkgajoaaDoor
end
section
namespace Go.Proofs.YtcaoblilkgajoaaDoor
open Go Go.RowKit
attribute [local go_sem ↓] Go.wp_at_zero Go.wp_at_succ
theorem moved_at {tf : Nat → Nat} {d : Pl.Dg} {n m : Nat} {W : World} {gS gM : Nat} (hn : n = d.n) (hm : m = d.mt.length) (hm4 : m = 4 * n) (hS : IRow W gS (d.sg.map (fun s => -s))) (hM : IRow W gM (nats (Pl.mvK tf d.mt m))) : DgAt W (some ⟨gS, 0, none⟩) (some ⟨gM, 0, none⟩) (Pl.mvD tf d) := by
 have e : (Pl.mvD tf d).n = n := by rw [hn]; exact List.length_map _
 refine ⟨?_, ?_⟩
 ·have h := IRow.ints hS
  rw [show (d.sg.map (fun s => -s)).length = (Pl.mvD tf d).n from rfl] at h
  exact h
 ·have h := IRow.ints hM
  rw [nats_len, Pl.mvK_len, ← hm, hm4, ← e, e, ← hm4] at h
  rw [e, ← hm4]
  show IntsAt W _ m (nats (Pl.mvK tf d.mt d.mt.length))
  rw [← hm]
  exact h
theorem moved_fin {tf : Nat → Nat} {d : Pl.Dg} {n m : Nat} {lp : Int} {w W : World} {gS gM go : Nat} {x y z : Value} (hS : IRow W gS (d.sg.map (fun s => -s))) (hM : IRow W gM (nats (Pl.mvK tf d.mt m))) (hX : Row W go 28 [x, y, z]) (hB : Below w.heap.size w W) (hgo : w.heap.size ≤ go) (a b c : Value) :
 MovePost tf d n m lp w (.returned (.agg #[.slice (some ⟨gS, 0, none⟩) n n, .slice (some ⟨gM, 0, none⟩) m m, .int .i64 lp])) (((W.setCell ⟨go, 0, none⟩ a).setCell ⟨go, 1, none⟩ b).setCell ⟨go, 2, none⟩ c) := by
 have ne : ∀ {g : Nat} {l : List Int}, IRow W g l → g ≠ go := fun {g l} h e => by
  subst e
  unfold IRow at h
  rw [Row, hX] at h
  injection h with h
  injection h with _ h5
  exact absurd h5 (by decide)
 have n1 := ne hS
 have n2 := ne hM
 exact ⟨gS, gM, rfl, Row.other (Row.other (Row.other hS n1 _) n1 _) n1 _, Row.other (Row.other (Row.other hM n2 _) n2 _) n2 _, ((hB.setCell hgo _).setCell hgo _).setCell hgo _⟩
set_option maxRecDepth 100000 in
set_option maxHeartbeats 2000000 in
theorem exchange_any (d : Pl.Dg) (A B : Option Addr) (n cp m cq : Nat) (lp : Int) (w : World) (hn : n = d.n) (hm : m = 4 * n) (hn64 : n ≤ 64) (hS : IntsAt w A n d.sg) (hT : IntsAt w B m (nats d.mt)) (hsg : ∀ c, c < n → d.sg.getD c 0 = 1 ∨ d.sg.getD c 0 = -1) (hmt : ∀ h, h < m → d.mt.getD h 0 < m) (hto : ∀ h, h < m → Pl.toM d h < m) :
 Calls Tryd.prog 50 #[.agg #[.slice A n cp, .slice B m cq, .int .i64 lp], .func (.func 51) #[] #[]] w (MovePost (Pl.toM d) d n m lp w) := by
 have X1 := hide (row_at (W := w) (g := w.heap.size) (t := 28) (vs := [.slice A n cp, .slice B m cq, .int .i64 lp]) rfl)
 have X2 := hide (row_at (W := w.alloc (.cells #[.slice A n cp, .slice B m cq, .int .i64 lp] 28)) (g := w.heap.size + 1) (t := 76) (vs := [.func (.func 51) #[] #[]]) (by simp))
 have X3 := hide (row_at (W := (w.alloc (.cells #[.slice A n cp, .slice B m cq, .int .i64 lp] 28)).alloc (.cells #[.func (.func 51) #[] #[]] 76)) (g := w.heap.size + 1 + 1) (t := 28) (vs := [.slice none 0 0, .slice none 0 0, .int .i64 0]) (by simp))
 have B3 := hide (show Below w.heap.size w (((w.alloc (.cells #[.slice A n cp, .slice B m cq, .int .i64 lp] 28)).alloc (.cells #[.func (.func 51) #[] #[]] 76)).alloc (.cells #[.slice none 0 0, .slice none 0 0, .int .i64 0] 28)) from (((Below.refl _ _).alloc (Nat.le_refl _) _).alloc (by simp) _).alloc (by simp; omega) _)
 obtain ⟨d0, d1, d2, d3⟩ := box3 ((X1.out.alloc (.cells #[.func (.func 51) #[] #[]] 76)).alloc (.cells #[.slice none 0 0, .slice none 0 0, .int .i64 0] 28))
 have HS := hide hS
 have HT := hide hT
 have HNN := hide hn
 have HMN := hide hm
 have HLN := hide hsg
 have HLM := hide hmt
 have HLT := hide hto
 clear hS hT hn hm hsg hmt hto
 go_enter Tryd.func50, Tryd.ntmps50
 go_wp2_with fail
 refine (moveM_any d A B n cp m cq lp A B cp cq m (.int .i64 lp) (w.heap.size + 1) w.heap.size _ HNN.out HMN.out hn64 (HS.out.keep B3.out) (HT.out.keep B3.out) ⟨HNN.out, (X2.out.alloc _).cell (i := 0) (by simp), (X1.out.alloc _).alloc _, HS.out.keep B3.out⟩ HLN.out HLM.out HLT.out).mono ?_
 rintro e w4 ⟨gS, gM, rfl, hS, hM, hb⟩
 have HS4 := hide hS
 have HM4 := hide hM
 have X4 := hide (X3.out.below hb)
 have B4 := hide (B3.out.trans (hb.mono B3.out.size))
 have HSZ := hide hb.size
 clear X1 X2 X3 d0 d1 d2 d3 hb hS hM
 obtain ⟨o0, o1, o2, o3⟩ := box3 X4.out
 go_wp2
 (try simp only [Exit.inBlock, Exit.then])
 refine bodyPost_ret (results_cell_row rfl _ _ (w.heap.size + 1 + 1) 28 _ _ _ rfl (((X4.out.set 0 _).set 1 _).set 2 _) Tryd.underlying28 rfl (by kernel_rfl)) rfl ?_
 exact moved_fin HS4.out HM4.out X4.out B4.out (by omega) _ _ _
theorem mget {d : Pl.Dg} (hd : Pl.Wf d) {h : Nat} (hh : h < 4 * d.n) : d.mt.getD h 0 = d.m h := by
 unfold Pl.Dg.m
 rw [List.getD_eq_getElem?_getD, List.getD_eq_getElem?_getD, List.getElem?_eq_getElem (by rw [hd.len]; exact hh)]
 rfl
theorem mto_lt {d : Pl.Dg} {n m : Nat} (hm : m = 4 * n) : ∀ h, h < m → Pl.toM d h < m := fun h hh => by
 subst hm
 exact Pl.tn_lt hh
theorem rto_lt {n m : Nat} (hm : m = 4 * n) : ∀ h, h < m → Pl.toR h < m := fun h hh => by
 unfold Pl.toR
 omega
theorem moved_tup {tf : Nat → Nat} {d : Pl.Dg} {n m lp : Nat} {w W : World} {S M : Option Addr} (h : MovePost tf d n m (lp : Int) w (.returned (.agg #[.slice S n n, .slice M m m, .int .i64 (lp : Int)])) W) (hn : n = d.n) (hm : m = d.mt.length) (hm4 : m = 4 * n) :
 ∃ S' M', Ending.returned (.tuple #[.agg #[.slice S n n, .slice M m m, .int .i64 (lp : Int)], .int .i64 0]) = .returned (.tuple #[.agg #[.slice S' n n, .slice M' m m, .int .i64 (lp : Int)], .int .i64 0]) ∧ DgAt W S' M' (Pl.mvD tf d) ∧ Below w.heap.size w W := by
 obtain ⟨gS, gM, he, hS, hM, hb⟩ := h
 exact ⟨S, M, rfl, by
  injection he with he
  injection he with he
  injection he with he
  injection he with h1 h2
  injection h2 with h2 h3
  injection h1 with h1
  injection h2 with h2
  rw [h1, h2]
  exact moved_at hn hm hm4 hS hM, hb⟩
set_option maxRecDepth 100000 in
set_option maxHeartbeats 2000000 in
theorem mirror_w (d : Pl.Dg) (hd : Pl.Valid d) (A B : Option Addr) (n cp cq m lp : Nat) (w : World) (hn : n = d.n) (hl : lp = d.lp) (hm : m = 4 * d.n) (hg : DgAt w A B d) :
 Calls Tryd.prog 21 #[.agg #[.slice A n cp, .slice B m cq, .int .i64 (lp : Int)]] w fun e w' => ∃ S M, e = .returned (.tuple #[.agg #[.slice S n n, .slice M m m, .int .i64 (lp : Int)], .int .i64 0]) ∧ DgAt w' S M (Pl.mvD (Pl.toM d) d) ∧ Below w.heap.size w w' := by
 have hm4 : m = 4 * n := by omega
 have hS : IntsAt w A n d.sg := by rw [hn]; exact hg.s
 have hT : IntsAt w B m (nats d.mt) := by rw [hm]; exact hg.m
 have X1 := hide (row_at (W := w) (g := w.heap.size) (t := 28) (vs := [.slice A n cp, .slice B m cq, .int .i64 (lp : Int)]) rfl)
 have X2 := hide (row_at (W := w.alloc (.cells #[.slice A n cp, .slice B m cq, .int .i64 (lp : Int)] 28)) (g := w.heap.size + 1) (t := 28) (vs := [.slice none 0 0, .slice none 0 0, .int .i64 0]) (by simp))
 have B2 := hide (show Below w.heap.size w ((w.alloc (.cells #[.slice A n cp, .slice B m cq, .int .i64 (lp : Int)] 28)).alloc (.cells #[.slice none 0 0, .slice none 0 0, .int .i64 0] 28)) from ((Below.refl _ _).alloc (Nat.le_refl _) _).alloc (by simp) _)
 have X1' := hide (X1.out.alloc (.cells #[.slice none 0 0, .slice none 0 0, .int .i64 0] 28))
 obtain ⟨d0, d1, d2, d3⟩ := box3 X1'.out
 have HS := hide hS
 have HT := hide hT
 have HD := hide hd
 have HG := hide hg
 have HNN := hide hn
 have HLL := hide hl
 have HMM := hide hm
 have HM4 := hide hm4
 clear hS hT hd hg X1 hn hl hm hm4
 go_enter Tryd.func21, Tryd.ntmps21
 go_wp2_with fail
 refine (valid_w d HD.out A B n cp cq m lp _ HNN.out HLL.out HMM.out (HG.out.keep B2.out)).mono ?_
 rintro e w3 ⟨rfl, hb⟩
 have X3 := hide (X1'.out.below hb)
 have Y3 := hide (X2.out.below hb)
 have B3 := hide (B2.out.trans (hb.mono B2.out.size))
 clear X1' X2 B2 hb d0 d1 d2 d3
 obtain ⟨d0, d1, d2, d3⟩ := box3 X3.out
 go_wp2_with fail
 refine (exchange_any d A B n cp m cq (lp : Int) _ HNN.out HM4.out (by rw [HNN.out]; exact HD.out.wf.few) (HS.out.keep B3.out) (HT.out.keep B3.out) (fun c hc => HD.out.wf.sign c (by have := HNN.out; omega)) (fun h hh => by have h4 : h < 4 * d.n := by { have := HMM.out; omega }; rw [mget HD.out.wf h4, HMM.out]; exact HD.out.wf.lt h h4) (mto_lt HM4.out)).mono ?_
 rintro e w4 ⟨gS, gM, rfl, hS, hM, hb⟩
 have HS4 := hide hS
 have HM4' := hide hM
 have X4 := hide (Y3.out.below hb)
 have B4 := hide (B3.out.trans (hb.mono B3.out.size))
 clear hS hM hb d0 d1 d2 d3 X3 Y3 B3
 obtain ⟨o0, o1, o2, o3⟩ := box3 X4.out
 obtain ⟨t0, t1, t2, t3⟩ := box3 (((X4.out.set 0 (.slice (some ⟨gS, 0, none⟩) n n)).set 1 (.slice (some ⟨gM, 0, none⟩) m m)).set 2 (.int .i64 (lp : Int)))
 go_wp2
 (try simp only [Exit.inBlock, Exit.then])
 refine bodyPost_ret (v := .tuple #[.agg #[.slice (some ⟨gS, 0, none⟩) n n, .slice (some ⟨gM, 0, none⟩) m m, .int .i64 (lp : Int)], .int .i64 0]) (by simp [results, Tryd.results21, go_sem, t0, t1, t2]) rfl ?_
 exact moved_tup (moved_fin HS4.out HM4'.out X4.out B4.out (by omega) _ _ _) HNN.out (by rw [HMM.out]; exact HD.out.wf.len.symm) HM4.out
set_option maxRecDepth 100000 in
set_option maxHeartbeats 2000000 in
theorem reflect_w (d : Pl.Dg) (hd : Pl.Valid d) (A B : Option Addr) (n cp cq m lp : Nat) (w : World) (hn : n = d.n) (hl : lp = d.lp) (hm : m = 4 * d.n) (hg : DgAt w A B d) :
 Calls Tryd.prog 22 #[.agg #[.slice A n cp, .slice B m cq, .int .i64 (lp : Int)]] w fun e w' => ∃ S M, e = .returned (.tuple #[.agg #[.slice S n n, .slice M m m, .int .i64 (lp : Int)], .int .i64 0]) ∧ DgAt w' S M (Pl.mvD (Pl.toR) d) ∧ Below w.heap.size w w' := by
 have hm4 : m = 4 * n := by omega
 have hS : IntsAt w A n d.sg := by rw [hn]; exact hg.s
 have hT : IntsAt w B m (nats d.mt) := by rw [hm]; exact hg.m
 have X1 := hide (row_at (W := w) (g := w.heap.size) (t := 28) (vs := [.slice A n cp, .slice B m cq, .int .i64 (lp : Int)]) rfl)
 have X2 := hide (row_at (W := w.alloc (.cells #[.slice A n cp, .slice B m cq, .int .i64 (lp : Int)] 28)) (g := w.heap.size + 1) (t := 28) (vs := [.slice none 0 0, .slice none 0 0, .int .i64 0]) (by simp))
 have B2 := hide (show Below w.heap.size w ((w.alloc (.cells #[.slice A n cp, .slice B m cq, .int .i64 (lp : Int)] 28)).alloc (.cells #[.slice none 0 0, .slice none 0 0, .int .i64 0] 28)) from ((Below.refl _ _).alloc (Nat.le_refl _) _).alloc (by simp) _)
 have X1' := hide (X1.out.alloc (.cells #[.slice none 0 0, .slice none 0 0, .int .i64 0] 28))
 obtain ⟨d0, d1, d2, d3⟩ := box3 X1'.out
 have HS := hide hS
 have HT := hide hT
 have HD := hide hd
 have HG := hide hg
 have HNN := hide hn
 have HLL := hide hl
 have HMM := hide hm
 have HM4 := hide hm4
 clear hS hT hd hg X1 hn hl hm hm4
 go_enter Tryd.func22, Tryd.ntmps22
 go_wp2_with fail
 refine (valid_w d HD.out A B n cp cq m lp _ HNN.out HLL.out HMM.out (HG.out.keep B2.out)).mono ?_
 rintro e w3 ⟨rfl, hb⟩
 have X3 := hide (X1'.out.below hb)
 have Y3 := hide (X2.out.below hb)
 have B3 := hide (B2.out.trans (hb.mono B2.out.size))
 clear X1' X2 B2 hb d0 d1 d2 d3
 obtain ⟨d0, d1, d2, d3⟩ := box3 X3.out
 go_wp2_with fail
 refine (moveR_any d A B n cp m cq (lp : Int) _ HNN.out HM4.out (by rw [HNN.out]; exact HD.out.wf.few) (HS.out.keep B3.out) (HT.out.keep B3.out) (fun c hc => HD.out.wf.sign c (by have := HNN.out; omega)) (fun h hh => by have h4 : h < 4 * d.n := by { have := HMM.out; omega }; rw [mget HD.out.wf h4, HMM.out]; exact HD.out.wf.lt h h4) (rto_lt HM4.out)).mono ?_
 rintro e w4 ⟨gS, gM, rfl, hS, hM, hb⟩
 have HS4 := hide hS
 have HM4' := hide hM
 have X4 := hide (Y3.out.below hb)
 have B4 := hide (B3.out.trans (hb.mono B3.out.size))
 clear hS hM hb d0 d1 d2 d3 X3 Y3 B3
 obtain ⟨o0, o1, o2, o3⟩ := box3 X4.out
 obtain ⟨t0, t1, t2, t3⟩ := box3 (((X4.out.set 0 (.slice (some ⟨gS, 0, none⟩) n n)).set 1 (.slice (some ⟨gM, 0, none⟩) m m)).set 2 (.int .i64 (lp : Int)))
 go_wp2
 (try simp only [Exit.inBlock, Exit.then])
 refine bodyPost_ret (v := .tuple #[.agg #[.slice (some ⟨gS, 0, none⟩) n n, .slice (some ⟨gM, 0, none⟩) m m, .int .i64 (lp : Int)], .int .i64 0]) (by simp [results, Tryd.results22, go_sem, t0, t1, t2]) rfl ?_
 exact moved_tup (moved_fin HS4.out HM4'.out X4.out B4.out (by omega) _ _ _) HNN.out (by rw [HMM.out]; exact HD.out.wf.len.symm) HM4.out
end Go.Proofs.YtcaoblilkgajoaaDoor
end
