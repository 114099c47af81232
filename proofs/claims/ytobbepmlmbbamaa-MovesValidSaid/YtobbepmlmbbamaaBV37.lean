/-
  The texts Sb, Sc in one.
-/
import Derived.Test.YtobbepmlmbbamaaBV32
import Derived.Test.YtobbepmlmbbamaaBV36
import Derived.Test.YtobbepmlmbbamaaBAV25
import Derived.Test.YtobbepmlmbbamaaBAV24
import Derived.Test.YtobbepmlmbbamaaBAV26
import Derived.Deep.RegionHeld3
import Derived.Deep.DrawnRows
set_option linter.unusedVariables false
set_option linter.unusedSimpArgs false

section
/-
  Walks: the number of components by the reference; the law on validity.
-/
namespace Go.Proofs.Ytobbepmlmbbamaa
open Go Go.RowKit

set_option maxRecDepth 100000 in
set_option maxHeartbeats 1000000 in
theorem rcomps_any (d : Pl.Dg) (hd : Pl.Wf d) (A B : Option Addr) (cp cq m : Nat) (w : World) (hm : m = 4 * d.n) (hg : DgAt w A B d) :
    Calls Try.prog 27 #[.agg #[.slice A d.n cp, .slice B m cq, .int .i64 d.lp]] w (fun e w' => e = .returned (.int .i64 ((strN d + d.lp : Nat) : Int)) ∧ Below w.heap.size w w') := by
  have hn := hd.few
  have hl := hd.lp
  have HM := hide hm
  have HG := hide hg
  have HD := hide hd
  have hk := Pl.cnt_top (Pl.Lst (fun h => h < 4 * d.n ∧ Pl.out d h = true) (Pl.Orb (Pl.st d))) (4 * d.n)
  have X0 := hide (row_at (W := w) (g := w.heap.size) (t := 24) (vs := [.slice A d.n cp, .slice B m cq, .int .i64 d.lp]) rfl)
  have B0 := hide (show Below w.heap.size w (w.alloc (.cells #[.slice A d.n cp, .slice B m cq, .int .i64 d.lp] 24)) from (Below.refl _ _).alloc (Nat.le_refl _) _)
  have hsN : strN d ≤ 1000 := by unfold strN strK; omega
  clear hm hg hd hk
  have D0 := hide (DC.start w (.slice A d.n cp) (.slice B m cq) (.int .i64 d.lp))
  clear X0 B0
  obtain ⟨s, hs⟩ : ∃ s, s = strN d := ⟨_, rfl⟩
  have HS := hide hs
  rw [← hs] at hsN ⊢
  clear hs
  have hwr : IntKind.i64.wrap ((s : Int) + (d.lp : Int)) = (s : Int) + (d.lp : Int) := IntWalk.i64_in _ (by omega)
  go_enter Try.func27, Try.ntmps27
  go_wp2_with fail
  obtain ⟨c0, c1, c2, _⟩ := D0.out.all
  go_region_held3 (fun w' => w'.cell? ⟨w.heap.size, 0, none⟩ = some (.slice A d.n cp) ∧ w'.cell? ⟨w.heap.size, 1, none⟩ = some (.slice B m cq) ∧ w'.cell? ⟨w.heap.size, 2, none⟩ = some (.int .i64 d.lp) ∧ DC w [.slice A d.n cp, .slice B m cq, .int .i64 d.lp] w')
    ((go_split_ands; refine DC.all ?_; (repeat (first | (with_reducible assumption) | (with_reducible exact D0.out) | (with_reducible refine DC.drew ?_) | (with_reducible refine DC.below ?_ hb5)))))
    (first
      | (go_at_call 60
         refine Calls.mono (rstrands_any d HD.out A B cp cq m (.int .i64 d.lp) _ HM.out (HG.out.keep D0.out.drew.2).s (by have h := (HG.out.keep D0.out.drew.2).m; rwa [← HM.out] at h)) ?_
         rintro e w1 ⟨A5, c5, rfl, hb5⟩
         rw [← HS.out]))
  have B1 := hide (D0.out.drew.below hb5).2
  clear hb5 c0 c1 c2
  go_wp2
  go_ret
  exact ⟨ret_int (by omega), B1.out⟩
theorem rcomps_T (d : Pl.Dg) (hd : Pl.Wf d) (A B : Option Addr) (n cp cq m lp T : Nat) (w : World) (hm : m = 4 * d.n) (hg : DgAt w A B d) (h1 : n = d.n) (h2 : lp = d.lp) (hT : strN d + d.lp = T) :
    Calls Try.prog 27 #[.agg #[.slice A n cp, .slice B m cq, .int .i64 (lp : Int)]] w (fun e w' => e = .returned (.int .i64 (T : Int)) ∧ Below w.heap.size w w') := by
  subst hT
  subst h1
  subst h2
  exact rcomps_any d hd A B cp cq m w hm hg
theorem small_two (A B : Option Addr) (n q cp cq : Nat) (l : Value) (w : World) : Calls Try.prog 21 #[.agg #[.slice A n cp, .slice B q cq, l]] w fun e w' => (e = .returned (.int .i64 0) ∨ (n ≤ 12 ∧ q ≤ 60 ∧ e = .returned (.int .i64 1))) ∧ Below w.heap.size w w' := by
  by_cases h1 : (12 : Int) < (n : Int)
  · go_enter Try.func21, Try.ntmps21
    go_wp2
    go_ret
    exact ⟨.inl rfl, (Below.refl _ _).alloc (Nat.le_refl _) _⟩
  · by_cases h2 : (60 : Int) < (q : Int)
    · go_enter Try.func21, Try.ntmps21
      go_wp2
      go_ret
      exact ⟨.inl rfl, (Below.refl _ _).alloc (Nat.le_refl _) _⟩
    · have HN := hide (show n ≤ 12 ∧ q ≤ 60 by omega)
      go_enter Try.func21, Try.ntmps21
      go_wp2
      go_ret
      exact ⟨.inr ⟨HN.out.1, HN.out.2, rfl⟩, (Below.refl _ _).alloc (Nat.le_refl _) _⟩
theorem own_intsA {w : World} {base : Nat} {A : Option Addr} {n c : Nat} {zs : List Int} (h : w.ownsRow base 3 1 (.slice A n c) n (zs.map (.int .i64))) : IntsAt w A n zs := own_ints' h
set_option maxRecDepth 100000 in
set_option maxHeartbeats 4000000 in
theorem mvalid_valid (d : Pl.Dg) (hd : Pl.Valid d) (A B : Option Addr) (cp cq m : Nat) (k x y s : Int) (o : Bool) (w : World) (hm : m = 4 * d.n) (hg : DgAt w A B d) :
    Calls Try.prog 5 #[.agg #[.slice A d.n cp, .slice B m cq, .int .i64 d.lp], (Mv.mk k x y s o).v] w fun e w' => e = .returned (.bool true) ∧ Below w.heap.size w w' := by
  have hn := hd.wf.few
  have HM := hide hm
  have HG := hide hg
  clear hm hg
  have X0 := hide (show Row ((w.alloc (.cells #[.slice A d.n cp, .slice B m cq, .int .i64 d.lp] 24)).alloc (.cells #[.int .i64 k, .int .i64 x, .int .i64 y, .int .i64 s, .bool o] 28)) w.heap.size 24 [.slice A d.n cp, .slice B m cq, .int .i64 d.lp] from (row_at (vs := [_, _, _]) rfl).alloc _)
  have X1 := hide (show Row ((w.alloc (.cells #[.slice A d.n cp, .slice B m cq, .int .i64 d.lp] 24)).alloc (.cells #[.int .i64 k, .int .i64 x, .int .i64 y, .int .i64 s, .bool o] 28)) (w.heap.size + 1) 28 [.int .i64 k, .int .i64 x, .int .i64 y, .int .i64 s, .bool o] from row_at (vs := [_, _, _, _, _]) (by simp))
  have B0 := hide (show Below w.heap.size w ((w.alloc (.cells #[.slice A d.n cp, .slice B m cq, .int .i64 d.lp] 24)).alloc (.cells #[.int .i64 k, .int .i64 x, .int .i64 y, .int .i64 s, .bool o] 28)) from ((Below.refl _ _).alloc (Nat.le_refl _) _).alloc (by simp) _)
  unfold Mv.v
  go_enter Try.func5, Try.ntmps5
  go_wp2_with fail
  refine (awake_true _).mono ?_
  rintro e w1 ⟨rfl, hb1⟩
  have Y0 := hide (X0.out.below hb1)
  have Y1 := hide (X1.out.below hb1)
  have B1 := hide (B0.out.trans (hb1.mono B0.out.size))
  clear X0 X1 B0 hb1
  obtain ⟨d0, d1, d2, d3⟩ := box3 Y0.out
  go_wp2_with fail
  refine (small_two A B d.n m cp cq (.int .i64 d.lp) w1).mono ?_
  rintro e w2 ⟨he, hb2⟩
  have Z0 := hide (Y0.out.below hb2)
  have Z1 := hide (Y1.out.below hb2)
  have B2 := hide (B1.out.trans (hb2.mono B1.out.size))
  clear Y0 Y1 B1 hb2 d0 d1 d2 d3
  obtain ⟨d0, d1, d2, d3⟩ := box3 Z0.out
  obtain ⟨m0, m1, m2, m3, m4, m5⟩ := box5 Z1.out
  rcases he with rfl | ⟨n12, m60, rfl⟩
  · go_wp2
    go_ret
    exact ⟨rfl, B2.out⟩
  · go_wp2_with fail
    have G2 := HG.out.keep B2.out
    refine (rcopy_any A B d.n cp m cq d.lp d.sg (nats d.mt) w2 G2.s (by rw [HM.out]; exact G2.m) (by omega) (by omega)).mono ?_
    rintro e w3 ⟨A2, B2', c2, d2', rfl, os, om, hb3, _⟩
    clear G2
    have CS := hide (own_intsA os)
    have CM := hide (own_intsA om)
    have U0 := hide (Z0.out.below hb3)
    have U1 := hide (Z1.out.below hb3)
    have B3 := hide (B2.out.trans (hb3.mono B2.out.size))
    clear Z0 Z1 hb3 os om d0 d1 d2 d3 m0 m1 m2 m3 m4 m5
    obtain ⟨d0, d1, d2, d3⟩ := box3 U0.out
    obtain ⟨m0, m1, m2, m3, m4, m5⟩ := box5 U1.out
    have hw3 : w.heap.size < w3.heap.size := U0.out.lt
    have hw3' : w.heap.size + 1 < w3.heap.size := U1.out.lt
    have B4 := hide (B3.out.alloc B3.out.size (.cells #[.slice A2 d.n c2, .slice B2' m d2', .int .i64 d.lp] 24))
    have V0 := hide (U0.out.alloc (.cells #[.slice A2 d.n c2, .slice B2' m d2', .int .i64 d.lp] 24))
    have V1 := hide (U1.out.alloc (.cells #[.slice A2 d.n c2, .slice B2' m d2', .int .i64 d.lp] 24))
    have V2 := hide (row_at (W := w3) (g := w3.heap.size) (t := 24) (vs := [.slice A2 d.n c2, .slice B2' m d2', .int .i64 d.lp]) rfl)
    have CS4 := hide (CS.out.keep ((Below.refl w3.heap.size w3).alloc (Nat.le_refl _) (.cells #[.slice A2 d.n c2, .slice B2' m d2', .int .i64 d.lp] 24)))
    have CM4 := hide (CM.out.keep ((Below.refl w3.heap.size w3).alloc (Nat.le_refl _) (.cells #[.slice A2 d.n c2, .slice B2' m d2', .int .i64 d.lp] 24)))
    go_wp2_with fail
    refine (apply_any d hd A B cp cq m ⟨k, x, y, s, o⟩ _ HM.out (HG.out.keep B4.out)).mono ?_
    intro e w5 hres
    have hb5 := hres.2.2
    have U0 := hide (V0.out.below hb5)
    have U1 := hide (V1.out.below hb5)
    have U2 := hide (V2.out.below hb5)
    have CS5 := hide (CS4.out.keep hb5)
    have CM5 := hide (CM4.out.keep hb5)
    have B5 := hide (B4.out.trans (hb5.mono B4.out.size))
    obtain ⟨g5, hg5⟩ : ∃ g, g = w3.heap.size := ⟨_, rfl⟩
    rw [← hg5] at U2 ⊢
    have hl0 : w.heap.size < w5.heap.size := U0.out.lt
    have hl1 : w.heap.size + 1 < w5.heap.size := U1.out.lt
    have hl2 : g5 < w5.heap.size := U2.out.lt
    clear hb5 hg5 V0 V1 V2 CS4 CM4 B4 d0 d1 d2 d3 m0 m1 m2 m3 m4 m5 hw3 hw3' CS CM B3
    obtain ⟨d0, d1, d2, d3⟩ := box3 U0.out
    obtain ⟨e0, e1, e2, e3⟩ := box3 U2.out
    obtain ⟨cc, hcc⟩ : ∃ c, c = apC d ⟨k, x, y, s, o⟩ := ⟨_, rfl⟩
    rw [← hcc] at hres
    by_cases hc : cc = 0
    · obtain ⟨A9, B9, c8, c9, k9, x9, y9, s9, o9, hmv, rfl, hT⟩ := (hres.2.1 hc).split
      have hap := ap_ok hd (m := ⟨k, x, y, s, o⟩) (by rw [← hcc]; exact hc)
      obtain ⟨r, hr⟩ : ∃ r, r = apD d ⟨k, x, y, s, o⟩ := ⟨_, rfl⟩
      rw [← hr] at hT hap ⊢
      obtain ⟨T, hT1⟩ : ∃ T, strN d + d.lp = T := ⟨_, rfl⟩
      have hT2 : strN r + r.lp = T := by rw [← hT1]; exact (hap.2 _ _ (strN_str d hd.wf) (strN_str r hap.1.wf)).symm
      have RV := hide hap.1
      have T1 := hide hT1
      have T2 := hide hT2
      have hrl := hap.1.wf.lp
      have hrn := hap.1.wf.few
      have HT := hide hT
      have D1 := hide (show Pl.Wf d from hd.wf)
      clear hres hcc hmv hr hap hT1 hT2 hT hc
      obtain ⟨N9, hN9⟩ : ∃ n, n = r.n := ⟨_, rfl⟩
      obtain ⟨L9, hL9⟩ : ∃ n, n = r.lp := ⟨_, rfl⟩
      obtain ⟨M9, hM9⟩ : ∃ n, n = 4 * r.n := ⟨_, rfl⟩
      rw [← hM9, ← hN9, ← hL9]
      rw [← hL9] at hrl
      rw [← hN9] at hrn
      have HN9 := hide hN9
      have HL9 := hide hL9
      have HM9 := hide hM9
      clear hN9 hL9 hM9
      have b6 := ((Below.refl w5.heap.size w5).alloc (Nat.le_refl _) (.cells #[.slice A9 N9 c8, .slice B9 M9 c9, .int .i64 (L9 : Int)] 24)).alloc (by simp) (.cells #[.int .i64 k9, .int .i64 x9, .int .i64 y9, .int .i64 s9, .bool o9] 28)
      have R6 := hide (show Row ((w5.alloc (.cells #[.slice A9 N9 c8, .slice B9 M9 c9, .int .i64 (L9 : Int)] 24)).alloc (.cells #[.int .i64 k9, .int .i64 x9, .int .i64 y9, .int .i64 s9, .bool o9] 28)) w5.heap.size 24 [.slice A9 N9 c8, .slice B9 M9 c9, .int .i64 (L9 : Int)] from (row_at (vs := [_, _, _]) rfl).alloc _)
      have V0 := hide (U0.out.below b6)
      have CS6 := hide (CS5.out.keep b6)
      have CM6 := hide (CM5.out.keep b6)
      have T6 := hide (HT.out.keep b6)
      have B6 := hide (B5.out.trans (b6.mono B5.out.size))
      clear b6
      go_wp2_with fail
      refine (same_yes d.sg (nats d.mt) d.lp A B A2 B2' d.n m cp cq c2 d2' _ (HG.out.keep B6.out).s (by have h := (HG.out.keep B6.out).m; rwa [← HM.out] at h) CS6.out CM6.out (by omega) (by omega)).mono ?_
      rintro e w7 ⟨rfl, hb7⟩
      have V7 := hide (V0.out.below hb7)
      have R7 := hide (R6.out.below hb7)
      have T7 := hide (T6.out.keep hb7)
      have B7 := hide (B6.out.trans (hb7.mono B6.out.size))
      clear hb7 d0 d1 d2 d3 e0 e1 e2 e3 V0 CS6 CM6 T6 B6 R6 CS5 CM5
      obtain ⟨d0, d1, d2, d3⟩ := box3 V7.out
      obtain ⟨e0, e1, e2, e3⟩ := box3 R7.out
      obtain ⟨gr, hgr⟩ : ∃ g, g = w5.heap.size := ⟨_, rfl⟩
      rw [← hgr] at e0 e1 e2 e3 R7 ⊢
      clear hgr
      go_wp2_with fail
      have kp : ∀ (W W' : World), (fun w' => Row w' w.heap.size 24 [.slice A d.n cp, .slice B m cq, .int .i64 d.lp] ∧ Row w' gr 24 [.slice A9 N9 c8, .slice B9 M9 c9, .int .i64 (L9 : Int)] ∧ DgT w' A9 B9 r ∧ Below w.heap.size w w') W → Below W.heap.size W W' → (fun w' => Row w' w.heap.size 24 [.slice A d.n cp, .slice B m cq, .int .i64 d.lp] ∧ Row w' gr 24 [.slice A9 N9 c8, .slice B9 M9 c9, .int .i64 (L9 : Int)] ∧ DgT w' A9 B9 r ∧ Below w.heap.size w w') W' := fun W W' h hb => ⟨h.1.below hb, h.2.1.below hb, h.2.2.1.keep hb, h.2.2.2.trans (hb.mono h.2.2.2.size)⟩
      have hvv : ∀ (p : Cls (fun w' => Row w' w.heap.size 24 [.slice A d.n cp, .slice B m cq, .int .i64 d.lp] ∧ Row w' gr 24 [.slice A9 N9 c8, .slice B9 M9 c9, .int .i64 (L9 : Int)] ∧ DgT w' A9 B9 r ∧ Below w.heap.size w w')), Calls Try.prog 26 #[.agg #[.slice A9 N9 c8, .slice B9 M9 c9, .int .i64 (L9 : Int)]] p.w fun e w' => e = .returned (.bool true) ∧ Below p.w.heap.size p.w w' := fun p => by
        have h := valid_yes r RV.out A9 B9 c8 c9 M9 p.w HM9.out p.ok.2.2.1.at
        rw [← HN9.out, ← HL9.out] at h
        exact h
      have HVV := hide (fun (p : Cls (fun w' => Row w' w.heap.size 24 [.slice A d.n cp, .slice B m cq, .int .i64 d.lp] ∧ Row w' gr 24 [.slice A9 N9 c8, .slice B9 M9 c9, .int .i64 (L9 : Int)] ∧ DgT w' A9 B9 r ∧ Below w.heap.size w w')) => calls_cls (C := (fun w' => Row w' w.heap.size 24 [.slice A d.n cp, .slice B m cq, .int .i64 d.lp] ∧ Row w' gr 24 [.slice A9 N9 c8, .slice B9 M9 c9, .int .i64 (L9 : Int)] ∧ DgT w' A9 B9 r ∧ Below w.heap.size w w')) (hvv p) (fun e w' h => ⟨h.1, kp _ _ p.ok h.2⟩))
      clear hvv
      have HC1 := hide (fun (p : Cls (fun w' => Row w' w.heap.size 24 [.slice A d.n cp, .slice B m cq, .int .i64 d.lp] ∧ Row w' gr 24 [.slice A9 N9 c8, .slice B9 M9 c9, .int .i64 (L9 : Int)] ∧ DgT w' A9 B9 r ∧ Below w.heap.size w w')) => calls_cls (C := (fun w' => Row w' w.heap.size 24 [.slice A d.n cp, .slice B m cq, .int .i64 d.lp] ∧ Row w' gr 24 [.slice A9 N9 c8, .slice B9 M9 c9, .int .i64 (L9 : Int)] ∧ DgT w' A9 B9 r ∧ Below w.heap.size w w')) (rcomps_T r RV.out.wf A9 B9 N9 c8 c9 M9 L9 T p.w HM9.out p.ok.2.2.1.at HN9.out HL9.out T2.out) (fun e w' h => ⟨h.1, kp _ _ p.ok h.2⟩))
      have HC2 := hide (fun (p : Cls (fun w' => Row w' w.heap.size 24 [.slice A d.n cp, .slice B m cq, .int .i64 d.lp] ∧ Row w' gr 24 [.slice A9 N9 c8, .slice B9 M9 c9, .int .i64 (L9 : Int)] ∧ DgT w' A9 B9 r ∧ Below w.heap.size w w')) => calls_cls (C := (fun w' => Row w' w.heap.size 24 [.slice A d.n cp, .slice B m cq, .int .i64 d.lp] ∧ Row w' gr 24 [.slice A9 N9 c8, .slice B9 M9 c9, .int .i64 (L9 : Int)] ∧ DgT w' A9 B9 r ∧ Below w.heap.size w w')) (rcomps_T d D1.out A B d.n cp cq m d.lp T p.w HM.out (HG.out.keep p.ok.2.2.2) rfl rfl T1.out) (fun e w' h => ⟨h.1, kp _ _ p.ok h.2⟩))
      have c30 : ∀ p : Cls (fun w' => Row w' w.heap.size 24 [.slice A d.n cp, .slice B m cq, .int .i64 d.lp] ∧ Row w' gr 24 [.slice A9 N9 c8, .slice B9 M9 c9, .int .i64 (L9 : Int)] ∧ DgT w' A9 B9 r ∧ Below w.heap.size w w'), p.w.cell? ⟨w.heap.size, 0, none⟩ = some (.slice A d.n cp) := fun p => p.ok.1.cell (i := 0) (by show 0 < 3; omega)
      have c31 : ∀ p : Cls (fun w' => Row w' w.heap.size 24 [.slice A d.n cp, .slice B m cq, .int .i64 d.lp] ∧ Row w' gr 24 [.slice A9 N9 c8, .slice B9 M9 c9, .int .i64 (L9 : Int)] ∧ DgT w' A9 B9 r ∧ Below w.heap.size w w'), p.w.cell? ⟨w.heap.size, 1, none⟩ = some (.slice B m cq) := fun p => p.ok.1.cell (i := 1) (by show 1 < 3; omega)
      have c32 : ∀ p : Cls (fun w' => Row w' w.heap.size 24 [.slice A d.n cp, .slice B m cq, .int .i64 d.lp] ∧ Row w' gr 24 [.slice A9 N9 c8, .slice B9 M9 c9, .int .i64 (L9 : Int)] ∧ DgT w' A9 B9 r ∧ Below w.heap.size w w'), p.w.cell? ⟨w.heap.size, 2, none⟩ = some (.int .i64 d.lp) := fun p => p.ok.1.cell (i := 2) (by show 2 < 3; omega)
      have c40 : ∀ p : Cls (fun w' => Row w' w.heap.size 24 [.slice A d.n cp, .slice B m cq, .int .i64 d.lp] ∧ Row w' gr 24 [.slice A9 N9 c8, .slice B9 M9 c9, .int .i64 (L9 : Int)] ∧ DgT w' A9 B9 r ∧ Below w.heap.size w w'), p.w.cell? ⟨gr, 0, none⟩ = some (.slice A9 N9 c8) := fun p => p.ok.2.1.cell (i := 0) (by show 0 < 3; omega)
      have c41 : ∀ p : Cls (fun w' => Row w' w.heap.size 24 [.slice A d.n cp, .slice B m cq, .int .i64 d.lp] ∧ Row w' gr 24 [.slice A9 N9 c8, .slice B9 M9 c9, .int .i64 (L9 : Int)] ∧ DgT w' A9 B9 r ∧ Below w.heap.size w w'), p.w.cell? ⟨gr, 1, none⟩ = some (.slice B9 M9 c9) := fun p => p.ok.2.1.cell (i := 1) (by show 1 < 3; omega)
      have c42 : ∀ p : Cls (fun w' => Row w' w.heap.size 24 [.slice A d.n cp, .slice B m cq, .int .i64 d.lp] ∧ Row w' gr 24 [.slice A9 N9 c8, .slice B9 M9 c9, .int .i64 (L9 : Int)] ∧ DgT w' A9 B9 r ∧ Below w.heap.size w w'), p.w.cell? ⟨gr, 2, none⟩ = some (.int .i64 (L9 : Int)) := fun p => p.ok.2.1.cell (i := 2) (by show 2 < 3; omega)
      have CC0 := hide (show (fun w' => Row w' w.heap.size 24 [.slice A d.n cp, .slice B m cq, .int .i64 d.lp] ∧ Row w' gr 24 [.slice A9 N9 c8, .slice B9 M9 c9, .int .i64 (L9 : Int)] ∧ DgT w' A9 B9 r ∧ Below w.heap.size w w') w7.drew from ⟨V7.out.drew, R7.out.drew, ⟨T7.out.s, T7.out.m⟩, B7.out.drew⟩)
      clear kp d0 d1 d2 d3 e0 e1 e2 e3
      refine wp_region_cls (fun w' => Row w' w.heap.size 24 [.slice A d.n cp, .slice B m cq, .int .i64 d.lp] ∧ Row w' gr 24 [.slice A9 N9 c8, .slice B9 M9 c9, .int .i64 (L9 : Int)] ∧ DgT w' A9 B9 r ∧ Below w.heap.size w w') (by kernel_rfl) (by kernel_rfl) CC0.out (fun hne => ?_)
      repeat (go_big_quiet_step ((first | (go_at_call 26; exact HVV.out _) | (go_at_call 27; first | exact HC1.out _ | exact HC2.out _))))
      refine wpQuiet_nil ?_
      rintro _ ⟨p, rfl⟩
      have hp := hide p.ok.2.2.2
      clear HVV HC1 HC2 c30 c31 c32 c40 c41 c42
      go_wp2
      go_ret
      exact ⟨rfl, hp.out⟩
    · have hE := ResErr.split (hres.1 hc)
      subst hE
      have t1 : (cc != 0) = true := by rw [bne_iff_ne]; exact hc
      clear hc hres hcc
      have b6 := ((Below.refl w5.heap.size w5).alloc (Nat.le_refl _) (.cells #[.slice none 0 0, .slice none 0 0, .int .i64 0] 24)).alloc (by simp) (.cells #[.int .i64 0, .int .i64 0, .int .i64 0, .int .i64 0, .bool false] 28)
      have R6 := hide (show Row ((w5.alloc (.cells #[.slice none 0 0, .slice none 0 0, .int .i64 0] 24)).alloc (.cells #[.int .i64 0, .int .i64 0, .int .i64 0, .int .i64 0, .bool false] 28)) w5.heap.size 24 [.slice none 0 0, .slice none 0 0, .int .i64 0] from (row_at (vs := [_, _, _]) rfl).alloc _)
      have CS6 := hide (CS5.out.keep b6)
      have CM6 := hide (CM5.out.keep b6)
      have B6 := hide (B5.out.trans (b6.mono B5.out.size))
      clear b6
      go_wp2_with fail
      refine (same_yes d.sg (nats d.mt) d.lp A B A2 B2' d.n m cp cq c2 d2' _ (HG.out.keep B6.out).s (by have h := (HG.out.keep B6.out).m; rwa [← HM.out] at h) CS6.out CM6.out (by omega) (by omega)).mono ?_
      rintro e w7 ⟨rfl, hb7⟩
      have R7 := hide (R6.out.below hb7)
      have B7 := hide (B6.out.trans (hb7.mono B6.out.size))
      clear hb7 d0 d1 d2 d3 e0 e1 e2 e3
      obtain ⟨e0, e1, e2, e3⟩ := box3 R7.out
      go_wp2
      go_ret
      exact ⟨rfl, B7.out⟩
end Go.Proofs.Ytobbepmlmbbamaa
end

section
/-
  Walks: the law on validity: diagrams that are not valid; all.
-/
namespace Go.Proofs.Ytobbepmlmbbamaa
open Go Go.RowKit

set_option maxRecDepth 100000 in
set_option maxHeartbeats 4000000 in
theorem mvalid_bad (sg mt : List Int) (lp : Int) (A B : Option Addr) (n q cp cq : Nat) (k x y s : Int) (o : Bool) (w : World) (hs : IntsAt w A n sg) (hm : IntsAt w B q mt) (hn : n ≤ maxLen) (hq : q ≤ maxLen) (hlp : -9223372036854775808 ≤ lp ∧ lp ≤ 9223372036854775807) (hv : ¬ Pl.VL sg mt lp) :
    Calls Try.prog 5 #[.agg #[.slice A n cp, .slice B q cq, .int .i64 lp], (Mv.mk k x y s o).v] w fun e w' => e = .returned (.bool true) ∧ Below w.heap.size w w' := by
  have X0 := hide (show Row ((w.alloc (.cells #[.slice A n cp, .slice B q cq, .int .i64 lp] 24)).alloc (.cells #[.int .i64 k, .int .i64 x, .int .i64 y, .int .i64 s, .bool o] 28)) w.heap.size 24 [.slice A n cp, .slice B q cq, .int .i64 lp] from (row_at (vs := [_, _, _]) rfl).alloc _)
  have X1 := hide (show Row ((w.alloc (.cells #[.slice A n cp, .slice B q cq, .int .i64 lp] 24)).alloc (.cells #[.int .i64 k, .int .i64 x, .int .i64 y, .int .i64 s, .bool o] 28)) (w.heap.size + 1) 28 [.int .i64 k, .int .i64 x, .int .i64 y, .int .i64 s, .bool o] from row_at (vs := [_, _, _, _, _]) (by simp))
  have B0 := hide (show Below w.heap.size w ((w.alloc (.cells #[.slice A n cp, .slice B q cq, .int .i64 lp] 24)).alloc (.cells #[.int .i64 k, .int .i64 x, .int .i64 y, .int .i64 s, .bool o] 28)) from ((Below.refl _ _).alloc (Nat.le_refl _) _).alloc (by simp) _)
  have HS := hide hs
  have HM := hide hm
  clear hs hm
  unfold Mv.v
  go_enter Try.func5, Try.ntmps5
  go_wp2_with fail
  refine (awake_true _).mono ?_
  rintro e w1 ⟨rfl, hb1⟩
  have Y0 := hide (X0.out.below hb1)
  have Y1 := hide (X1.out.below hb1)
  have B1 := hide (B0.out.trans (hb1.mono B0.out.size))
  clear X0 X1 B0 hb1
  obtain ⟨d0, d1, d2, d3⟩ := box3 Y0.out
  go_wp2_with fail
  refine (small_two A B n q cp cq (.int .i64 lp) w1).mono ?_
  rintro e w2 ⟨he, hb2⟩
  have Z0 := hide (Y0.out.below hb2)
  have Z1 := hide (Y1.out.below hb2)
  have B2 := hide (B1.out.trans (hb2.mono B1.out.size))
  clear Y0 Y1 B1 hb2 d0 d1 d2 d3
  obtain ⟨d0, d1, d2, d3⟩ := box3 Z0.out
  obtain ⟨m0, m1, m2, m3, m4, m5⟩ := box5 Z1.out
  rcases he with rfl | ⟨n12, m60, rfl⟩
  · go_wp2
    go_ret
    exact ⟨rfl, B2.out⟩
  · go_wp2_with fail
    refine (rcopy_any A B n cp q cq lp sg mt w2 (HS.out.keep B2.out) (HM.out.keep B2.out) (by omega) (by omega)).mono ?_
    rintro e w3 ⟨A2, B2', c2, d2', rfl, os, om, hb3, _⟩
    have CS := hide (own_intsA os)
    have CM := hide (own_intsA om)
    have U0 := hide (Z0.out.below hb3)
    have U1 := hide (Z1.out.below hb3)
    have B3 := hide (B2.out.trans (hb3.mono B2.out.size))
    clear Z0 Z1 hb3 os om d0 d1 d2 d3 m0 m1 m2 m3 m4 m5
    obtain ⟨d0, d1, d2, d3⟩ := box3 U0.out
    obtain ⟨m0, m1, m2, m3, m4, m5⟩ := box5 U1.out
    have hw3 : w.heap.size < w3.heap.size := U0.out.lt
    have hw3' : w.heap.size + 1 < w3.heap.size := U1.out.lt
    have B4 := hide (B3.out.alloc B3.out.size (.cells #[.slice A2 n c2, .slice B2' q d2', .int .i64 lp] 24))
    have V0 := hide (U0.out.alloc (.cells #[.slice A2 n c2, .slice B2' q d2', .int .i64 lp] 24))
    have V2 := hide (row_at (W := w3) (g := w3.heap.size) (t := 24) (vs := [.slice A2 n c2, .slice B2' q d2', .int .i64 lp]) rfl)
    have CS4 := hide (CS.out.keep ((Below.refl w3.heap.size w3).alloc (Nat.le_refl _) (.cells #[.slice A2 n c2, .slice B2' q d2', .int .i64 lp] 24)))
    have CM4 := hide (CM.out.keep ((Below.refl w3.heap.size w3).alloc (Nat.le_refl _) (.cells #[.slice A2 n c2, .slice B2' q d2', .int .i64 lp] 24)))
    go_wp2_with fail
    refine (apply_v sg mt lp A B n q cp cq k x y s o _ (HS.out.keep B4.out) (HM.out.keep B4.out) hn hq hlp hv).mono ?_
    rintro e w5 ⟨hE, hb5⟩
    have U0 := hide (V0.out.below hb5)
    have U2 := hide (V2.out.below hb5)
    have CS5 := hide (CS4.out.keep hb5)
    have CM5 := hide (CM4.out.keep hb5)
    have B5 := hide (B4.out.trans (hb5.mono B4.out.size))
    obtain ⟨g5, hg5⟩ : ∃ g, g = w3.heap.size := ⟨_, rfl⟩
    rw [← hg5] at U2 ⊢
    have hl0 : w.heap.size < w5.heap.size := U0.out.lt
    have hl2 : g5 < w5.heap.size := U2.out.lt
    clear hb5 hg5 V0 V2 CS4 CM4 B4 d0 d1 d2 d3 m0 m1 m2 m3 m4 m5 hw3 hw3' CS CM B3
    obtain ⟨d0, d1, d2, d3⟩ := box3 U0.out
    obtain ⟨e0, e1, e2, e3⟩ := box3 U2.out
    have hE' := ResErr.split hE
    subst hE'
    clear hE
    have b6 := ((Below.refl w5.heap.size w5).alloc (Nat.le_refl _) (.cells #[.slice none 0 0, .slice none 0 0, .int .i64 0] 24)).alloc (by simp) (.cells #[.int .i64 0, .int .i64 0, .int .i64 0, .int .i64 0, .bool false] 28)
    have R6 := hide (show Row ((w5.alloc (.cells #[.slice none 0 0, .slice none 0 0, .int .i64 0] 24)).alloc (.cells #[.int .i64 0, .int .i64 0, .int .i64 0, .int .i64 0, .bool false] 28)) w5.heap.size 24 [.slice none 0 0, .slice none 0 0, .int .i64 0] from (row_at (vs := [_, _, _]) rfl).alloc _)
    have CS6 := hide (CS5.out.keep b6)
    have CM6 := hide (CM5.out.keep b6)
    have B6 := hide (B5.out.trans (b6.mono B5.out.size))
    clear b6
    go_wp2_with fail
    refine (same_yes sg mt lp A B A2 B2' n q cp cq c2 d2' _ (HS.out.keep B6.out) (HM.out.keep B6.out) CS6.out CM6.out (by omega) (by omega)).mono ?_
    rintro e w7 ⟨rfl, hb7⟩
    have R7 := hide (R6.out.below hb7)
    have B7 := hide (B6.out.trans (hb7.mono B6.out.size))
    clear hb7 d0 d1 d2 d3 e0 e1 e2 e3
    obtain ⟨e0, e1, e2, e3⟩ := box3 R7.out
    go_wp2
    go_ret
    exact ⟨rfl, B7.out⟩
theorem mvalid_walk (sg mt : List Int) (lp : Int) (A B : Option Addr) (n q cp cq : Nat) (k x y s : Int) (o : Bool) (w : World) (hs : IntsAt w A n sg) (hm : IntsAt w B q mt) (hn : n ≤ maxLen) (hq : q ≤ maxLen) (hlp : -9223372036854775808 ≤ lp ∧ lp ≤ 9223372036854775807) :
    Calls Try.prog 5 #[.agg #[.slice A n cp, .slice B q cq, .int .i64 lp], (Mv.mk k x y s o).v] w fun e w' => e = .returned (.bool true) ∧ Below w.heap.size w w' := by
  by_cases hv : Pl.VL sg mt lp
  · have hl := hs.len
    have hl2 := hm.len
    have hl3 := hv.len
    have en : (Pl.mk sg mt lp).n = n := hl
    have em : nats (Pl.mk sg mt lp).mt = mt := Pl.nats_mk hv.2.1
    have el : ((Pl.mk sg mt lp).lp : Int) = lp := by show ((lp.toNat : Nat) : Int) = lp; have := hv.2.2; omega
    have h := mvalid_valid (Pl.mk sg mt lp) hv.1 A B cp cq q k x y s o w (by rw [en]; omega) ⟨by rw [en]; exact hs, by rw [en, em, show 4 * n = q by omega]; exact hm⟩
    rw [en, el] at h
    exact h
  · exact mvalid_bad sg mt lp A B n q cp cq k x y s o w hs hm hn hq hlp hv
end Go.Proofs.Ytobbepmlmbbamaa
end
