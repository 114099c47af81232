/-
 The texts Bzg, Bzh in one.
-/
import Derived.Test.YtcaoblilkgajoaaDoorE10
import Derived.Test.YtcaoblilkgajoaaDoorE09
import Derived.Deep.DeepCutAuto
import Derived.Deep.RegionHeld3
import Derived.Deep.DrawnRows
set_option linter.unusedVariables false
set_option linter.unusedSimpArgs false
section
namespace Go.Proofs.YtcaoblilkgajoaaDoor
open Go Go.RowKit
attribute [local go_sem ↓] Go.wp_at_zero Go.wp_at_succ
structure LB (w : World) (L : List (Nat × List Value)) (T : List (Option Addr × Nat × List Int)) (W : World) : Prop where
 rows : ∀ p, p ∈ L → Row W p.1 24 p.2
 ints : ∀ q, q ∈ T → IntsAt W q.1 q.2.1 q.2.2
 bel : Below w.heap.size w W
section
variable {w W W' : World} {L : List (Nat × List Value)} {T : List (Option Addr × Nat × List Int)}
theorem LB.below (h : LB w L T W) (hb : Below W.heap.size W W') : LB w L T W' := ⟨fun p hp => (h.rows p hp).below hb, fun q hq => (h.ints q hq).keep hb, h.bel.trans (hb.mono h.bel.size)⟩
theorem LB.drew (h : LB w L T W) : LB w L T W.drew := h.below (Below.refl _ _).drew
theorem LB.alloc (h : LB w L T W) (o : Obj) : LB w L T (W.alloc o) := h.below ((Below.refl _ _).alloc (Nat.le_refl _) o)
theorem LB.row (h : LB w L T W) {g : Nat} {a b : Value} (hm : (g, [a, b]) ∈ L) : W.cell? ⟨g, 0, none⟩ = some a ∧ W.cell? ⟨g, 1, none⟩ = some b ∧ ∀ o, W.frozen? ⟨g, o, none⟩ = false := box2b (h.rows _ hm)
theorem LB.int (h : LB w L T W) {A : Option Addr} {n : Nat} {xs : List Int} (hm : (A, n, xs) ∈ T) : IntsAt W A n xs := h.ints _ hm
theorem LB.addI (h : LB w L T W) {A : Option Addr} {n : Nat} {xs : List Int} (hi : IntsAt W A n xs) : LB w L ((A, n, xs) :: T) W := ⟨h.rows, fun q hq => by
 rcases List.mem_cons.1 hq with rfl | hq
 ·exact hi
 ·exact h.ints q hq, h.bel⟩
theorem LB.newR (h : LB w L T W) (x y : Value) : LB w ((W.heap.size, [x, y]) :: L) T (W.alloc (.cells #[x, y] 24)) := by
 have h2 := h.alloc (.cells #[x, y] 24)
 refine ⟨fun p hp => ?_, h2.ints, h2.bel⟩
 rcases List.mem_cons.1 hp with rfl | hp
 ·exact row_at (W := W) (g := W.heap.size) (t := 24) (vs := [x, y]) rfl
 ·exact h2.rows p hp
end
theorem LB.start (w : World) (a b c d e f : Value) (T : List (Option Addr × Nat × List Int)) (hT : ∀ q, q ∈ T → IntsAt w q.1 q.2.1 q.2.2) :
 LB w [(w.heap.size, [a, b]), (w.heap.size + 1, [c, d]), (w.heap.size + 1 + 1, [e, f])] T (((w.alloc (.cells #[a, b] 24)).alloc (.cells #[c, d] 24)).alloc (.cells #[e, f] 24)) := by
 have hb : Below w.heap.size w (((w.alloc (.cells #[a, b] 24)).alloc (.cells #[c, d] 24)).alloc (.cells #[e, f] 24)) := (((Below.refl _ _).alloc (Nat.le_refl _) _).alloc (by simp) _).alloc (by simp; omega) _
 have h0 := row_at (W := w) (g := w.heap.size) (t := 24) (vs := [a, b]) rfl
 have h1 := row_at (W := w.alloc (.cells #[a, b] 24)) (g := w.heap.size + 1) (t := 24) (vs := [c, d]) (by simp)
 have h2 := row_at (W := (w.alloc (.cells #[a, b] 24)).alloc (.cells #[c, d] 24)) (g := w.heap.size + 1 + 1) (t := 24) (vs := [e, f]) (by simp)
 refine ⟨fun p hp => ?_, fun q hq => (hT q hq).keep hb, hb⟩
 simp only [List.mem_cons, List.not_mem_nil, or_false] at hp
 rcases hp with rfl | rfl | rfl
 ·exact (h0.alloc _).alloc _
 ·exact h1.alloc _
 ·exact h2
theorem mul_ok {s : Int} {xs ys : List Int} (hv : Pl.BV s xs) (hu : Pl.BV s ys) (A B : Option Addr) (n m c d : Nat) (w : World) (hx : IntsAt w A n xs) (hy : IntsAt w B m ys) (h200 : n + m ≤ 200) :
 Calls Tryd.prog 33 #[.agg #[.int .i64 s, .slice A n c], .agg #[.int .i64 s, .slice B m d]] w fun e w' => ∃ (D : Option Addr) (k : Nat), e = .returned (.tuple #[.agg #[.int .i64 s, .slice D (n + m) k], .int .i64 0]) ∧ IntsAt w' D (n + m) (xs ++ ys) ∧ Below w.heap.size w w' := by
 refine (mul_any s s xs ys A B n m c d w hx hy (by unfold maxLen; omega) (by unfold maxLen; omega) h200).mono ?_
 rintro e w' ⟨_, _, h, hb⟩
 have l1 := hx.len
 have l2 := hy.len
 obtain ⟨D, k, h1, h2⟩ := h hv hu rfl (by omega)
 rw [l1, l2] at h1 h2
 exact ⟨D, k, h1, h2.row, hb⟩
theorem mul_okT {s : Int} {xs ys : List Int} (hv : Pl.BV s xs) (hu : Pl.BV s ys) (A B : Option Addr) (n m c d : Nat) (w : World) (hx : IntsAt w A n xs) (hy : IntsAt w B m ys) (h200 : n + m ≤ 200) :
 Calls Tryd.prog 33 #[.agg #[.int .i64 s, .slice A n c], .agg #[.int .i64 s, .slice B m d]] w fun e w' => ∃ (D : Option Addr) (k : Nat), e = .returned (.tuple #[.agg #[.int .i64 s, .slice D (n + m) k], .int .i64 0]) ∧ RowT w' 3 D (n + m) ((xs ++ ys).map (.int .i64)) ∧ Below w.heap.size w w' := by
 refine (mul_any s s xs ys A B n m c d w hx hy (by unfold maxLen; omega) (by unfold maxLen; omega) h200).mono ?_
 rintro e w' ⟨_, _, h, hb⟩
 have l1 := hx.len
 have l2 := hy.len
 obtain ⟨D, k, h1, h2⟩ := h hv hu rfl (by omega)
 rw [l1, l2] at h1 h2
 exact ⟨D, k, h1, h2, hb⟩
theorem mul_no {s t : Int} {xs ys : List Int} (hv : ¬ (Pl.BV s xs ∧ Pl.BV t ys)) (A B : Option Addr) (n m c d : Nat) (w : World) (hx : IntsAt w A n xs) (hy : IntsAt w B m ys) (h200 : n + m ≤ 200) :
 Calls Tryd.prog 33 #[.agg #[.int .i64 s, .slice A n c], .agg #[.int .i64 t, .slice B m d]] w fun e w' => e = .returned (.tuple #[.agg #[.int .i64 0, .slice none 0 0], .int .i64 1]) ∧ Below w.heap.size w w' :=
 (mul_any s t xs ys A B n m c d w hx hy (by unfold maxLen; omega) (by unfold maxLen; omega) h200).mono fun e w' ⟨h, _, _, hb⟩ => ⟨h hv, hb⟩
theorem mul_ne {s t : Int} {xs ys : List Int} (hv : Pl.BV s xs) (hu : Pl.BV t ys) (hst : s ≠ t) (A B : Option Addr) (n m c d : Nat) (w : World) (hx : IntsAt w A n xs) (hy : IntsAt w B m ys) (h200 : n + m ≤ 200) :
 Calls Tryd.prog 33 #[.agg #[.int .i64 s, .slice A n c], .agg #[.int .i64 t, .slice B m d]] w fun e w' => e = .returned (.tuple #[.agg #[.int .i64 0, .slice none 0 0], .int .i64 2]) ∧ Below w.heap.size w w' :=
 (mul_any s t xs ys A B n m c d w hx hy (by unfold maxLen; omega) (by unfold maxLen; omega) h200).mono fun e w' ⟨_, h, _, hb⟩ => ⟨h hv hu hst, hb⟩
theorem exponent_yes {s : Int} {xs : List Int} (hv : Pl.BV s xs) (A : Option Addr) (n c : Nat) (w : World) (hx : IntsAt w A n xs) (hn : n ≤ maxLen) :
 Calls Tryd.prog 26 #[.agg #[.int .i64 s, .slice A n c]] w fun e w' => e = .returned (.int .i64 (Pl.exW xs)) ∧ Below w.heap.size w w' :=
 (exponent_any s xs A n c w hx hn).mono fun e w' ⟨_, h, hb⟩ => ⟨h hv, hb⟩
theorem perm_yes {q : Nat} {xs : List Int} (hv : Pl.BV (q : Int) xs) (A : Option Addr) (n c : Nat) (w : World) (hx : IntsAt w A n xs) (hn : n ≤ maxLen) :
 Calls Tryd.prog 23 #[.agg #[.int .i64 (q : Int), .slice A n c]] w fun e w' => ∃ (B : Option Addr), e = .returned (.slice B q q) ∧ IntsAt w' B q (nats (Pl.pmR q xs)) ∧ Below w.heap.size w w' := by
 refine (perm_any (q : Int) xs A n c w hx hn).mono ?_
 rintro e w' ⟨_, h, hb⟩
 obtain ⟨g, _, he, hr⟩ := h hv
 rw [Int.toNat_natCast] at he hr
 have hi := hr.ints
 rw [nats_len, Pl.pmR_len] at hi
 exact ⟨_, he, hi, hb⟩
theorem inverse_yes {s : Int} {xs : List Int} (hv : Pl.BV s xs) (A : Option Addr) (n c : Nat) (w : World) (hx : IntsAt w A n xs) (hn : n ≤ maxLen) :
 Calls Tryd.prog 24 #[.agg #[.int .i64 s, .slice A n c]] w fun e w' => ∃ (B : Option Addr) (d : Nat), e = .returned (.agg #[.int .i64 s, .slice B n d]) ∧ IntsAt w' B n (Pl.ivW xs) ∧ Below w.heap.size w w' := by
 have hl := hx.len
 refine (inverse_any s xs A n c w hx hn).mono ?_
 rintro e w' ⟨_, h, hb⟩
 obtain ⟨B, d, he, hr⟩ := h hv
 rw [hl] at he hr
 exact ⟨B, d, he, hr.row, hb⟩
theorem reduce_yes {s : Int} {xs : List Int} (hv : Pl.BV s xs) (A : Option Addr) (n c : Nat) (w : World) (hx : IntsAt w A n xs) (hn : n ≤ maxLen) :
 Calls Tryd.prog 25 #[.agg #[.int .i64 s, .slice A n c]] w fun e w' => ∃ (B : Option Addr) (d : Nat), e = .returned (.agg #[.int .i64 s, .slice B (Pl.rdW xs).length d]) ∧ Below w.heap.size w w' := by
 refine (reduce_any s xs A n c w hx hn).mono ?_
 rintro e w' ⟨_, h, hb⟩
 obtain ⟨B, d, he, hr⟩ := h hv
 exact ⟨B, d, he, hb⟩
structure KB (W0 W : World) : Prop where
 bel : Below W0.heap.size W0 W
theorem KB.refl (W : World) : KB W W := ⟨Below.refl _ _⟩
section
variable {W0 W W' w : World} {L : List (Nat × List Value)} {T : List (Option Addr × Nat × List Int)}
theorem KB.drew (h : KB W0 W) : KB W0 W.drew := ⟨h.bel.drew⟩
theorem KB.alloc (h : KB W0 W) (o : Obj) : KB W0 (W.alloc o) := ⟨h.bel.alloc h.bel.size o⟩
theorem KB.below (h : KB W0 W) (hb : Below W.heap.size W W') : KB W0 W' := ⟨h.bel.trans (hb.mono h.bel.size)⟩
theorem KB.set {g o : Nat} {x : Value} (hg : W0.heap.size ≤ g) (h : KB W0 W) : KB W0 (W.setCell ⟨g, o, none⟩ x) := ⟨h.bel.setCell (p := ⟨g, o, none⟩) hg x⟩
theorem KB.lb (h : KB W0 W) (hL : LB w L T W0) : LB w L T W := hL.below h.bel
theorem KB.one (hL : LB w L T W0) {g : Nat} {a b : Value} (hm : (g, [a, b]) ∈ L) (h : KB W0 W) : W.cell? ⟨g, 0, none⟩ = some a ∧ W.cell? ⟨g, 1, none⟩ = some b ∧ KB W0 W := ⟨((h.lb hL).row hm).1, ((h.lb hL).row hm).2.1, h⟩
end
theorem LB.put {w W : World} {L : List (Nat × List Value)} {T : List (Option Addr × Nat × List Int)} (h : LB w L T W) {g : Nat} {x y : Value} (hr : Row W g 24 [x, y]) : LB w ((g, [x, y]) :: L) T W :=
 ⟨fun p hp => by
   rcases List.mem_cons.1 hp with rfl | hp
   ·exact hr
   ·exact h.rows p hp, h.ints, h.bel⟩
theorem exponent_is {s ea : Int} {xs : List Int} (he : Pl.exW xs = ea) (hv : Pl.BV s xs) (A : Option Addr) (n c : Nat) (w : World) (hx : IntsAt w A n xs) (hn : n ≤ maxLen) :
 Calls Tryd.prog 26 #[.agg #[.int .i64 s, .slice A n c]] w fun e w' => e = .returned (.int .i64 ea) ∧ Below w.heap.size w w' := by
 subst he
 exact exponent_yes hv A n c w hx hn
theorem reduce_nil {s : Int} {xs : List Int} (h0 : Pl.rdW xs = []) (hv : Pl.BV s xs) (A : Option Addr) (n c : Nat) (w : World) (hx : IntsAt w A n xs) (hn : n ≤ maxLen) :
 Calls Tryd.prog 25 #[.agg #[.int .i64 s, .slice A n c]] w fun e w' => ∃ (B : Option Addr) (d : Nat), e = .returned (.agg #[.int .i64 s, .slice B 0 d]) ∧ Below w.heap.size w w' := by
 refine (reduce_yes hv A n c w hx hn).mono ?_
 rintro e w' ⟨B, d, he, hb⟩
 rw [h0] at he
 exact ⟨B, d, he, hb⟩
theorem psign_is {q π : Nat} {xs : List Int} (hπ : π = xs.length % 2) (hv : Pl.BV (q : Int) xs) (A : Option Addr) (c : Nat) (w : World) (hw : IntsAt w A q (nats (Pl.pmR q xs))) :
 Calls Tryd.prog 34 #[.slice A q c] w fun e w' => e = .returned (.int .i64 (1 - 2 * (π : Int))) ∧ Below w.heap.size w w' := by
 subst hπ
 exact psign_yes q xs (by have := hv.ok; rwa [Int.toNat_natCast] at this) A c w hw (by have := hv.2.1; omega)
end Go.Proofs.YtcaoblilkgajoaaDoor
end
section
namespace Go.Proofs.YtcaoblilkgajoaaDoor
open Go Go.RowKit
attribute [local go_sem ↓] Go.wp_at_zero Go.wp_at_succ
theorem field_b1 (x y : Value) (W : World) : (Instr.field 24 (.agg #[x, y]) 1).run Tryd.prog W = .ok y W := by kernel_rfl
set_option maxRecDepth 100000 in
set_option maxHeartbeats 16000000 in
theorem braidProducts_all (s t r : Int) (xs ys zs : List Int) (A B C : Option Addr) (n m k c d f : Nat) (w : World) (hx : IntsAt w A n xs) (hy : IntsAt w B m ys) (hz : IntsAt w C k zs) (hn : n ≤ maxLen) (hm : m ≤ maxLen) (hk : k ≤ maxLen) (hg : GV w) (hw0 : 0 < w.heap.size) :
 Calls Tryd.prog 9 #[.agg #[.int .i64 s, .slice A n c], .agg #[.int .i64 t, .slice B m d], .agg #[.int .i64 r, .slice C k f]] w fun e w' => e = .returned (.bool true) ∧ Below w.heap.size w w' := by
 have HN := hide hn
 have HM := hide hm
 have HK := hide hk
 have HLX := hide hx.len
 have HLY := hide hy.len
 have HLZ := hide hz.len
 unfold maxLen at hn hm hk
 have L0 := hide (LB.start w (.int .i64 s) (.slice A n c) (.int .i64 t) (.slice B m d) (.int .i64 r) (.slice C k f) [(A, n, xs), (B, m, ys), (C, k, zs)] (fun q hq => by
  simp only [List.mem_cons, List.not_mem_nil, or_false] at hq
  rcases hq with rfl | rfl | rfl
  ·exact hx
  ·exact hy
  ·exact hz))
 have G0 := hide (hg.below L0.out.bel)
 have S0 := hide (show 0 < (((w.alloc (.cells #[.int .i64 s, .slice A n c] 24)).alloc (.cells #[.int .i64 t, .slice B m d] 24)).alloc (.cells #[.int .i64 r, .slice C k f] 24)).heap.size by simp)
 clear hx hy hz hg
 go_enter Tryd.func9, Tryd.ntmps9
 go_wp2_with fail
 refine (awake33 _ G0.out S0.out).mono ?_
 rintro e w1 ⟨rfl, hb⟩
 have L1 := hide (L0.out.below hb)
 clear hb L0 G0 S0
 obtain ⟨a0, a1, a2⟩ := L1.out.row (.head _)
 go_wp2_with fail
 refine (great33 s A n c _ HN.out).mono ?_
 rintro e w2 ⟨rfl, hb⟩
 have L2 := hide (L1.out.below hb)
 clear hb L1
 clear a0 a1 a2
 obtain ⟨b0, b1, b2⟩ := L2.out.row (.tail _ (.head _))
 by_cases g1 : 30 < n
 ·rw [show decide (30 < n) = true by simp [g1]]
  go_wp2
  go_ret
  exact ⟨rfl, L2.out.bel⟩
 ·rw [show decide (30 < n) = false by simp [g1]]
  go_wp2_with fail
  refine (great33 t B m d _ HM.out).mono ?_
  rintro e w3 ⟨rfl, hb⟩
  have L3 := hide (L2.out.below hb)
  clear hb L2
  clear b0 b1 b2
  obtain ⟨c0, c1, c2⟩ := L3.out.row (.tail _ (.tail _ (.head _)))
  by_cases g2 : 30 < m
  ·rw [show decide (30 < m) = true by simp [g2]]
   go_wp2
   go_ret
   exact ⟨rfl, L3.out.bel⟩
  ·rw [show decide (30 < m) = false by simp [g2]]
   go_wp2_with fail
   refine (great33 r C k f _ HK.out).mono ?_
   rintro e w4 ⟨rfl, hb⟩
   have L4 := hide (L3.out.below hb)
   clear hb L3
   clear c0 c1 c2
   obtain ⟨a0, a1, a2⟩ := L4.out.row (.head _)
   obtain ⟨b0, b1, b2⟩ := L4.out.row (.tail _ (.head _))
   by_cases g3 : 30 < k
   ·rw [show decide (30 < k) = true by simp [g3]]
    go_wp2
    go_ret
    exact ⟨rfl, L4.out.bel⟩
   ·rw [show decide (30 < k) = false by simp [g3]]
    have n30 : n ≤ 30 := by omega
    have m30 : m ≤ 30 := by omega
    have k30 : k ≤ 30 := by omega
    clear g1 g2 g3 hn hm hk
    by_cases hv : Pl.BV s xs ∧ Pl.BV t ys
    ·obtain ⟨hv1, hv2⟩ := hv
     have HV0 := hide hv1
     have HU0 := hide hv2
     by_cases hst : s = t
     ·subst hst
      obtain ⟨q, rfl⟩ : ∃ q : Nat, s = (q : Int) := ⟨s.toNat, by have := hv1.1; omega⟩
      have hq1 : 1 ≤ q := by have := hv1.1; omega
      have hq10 : q ≤ 10 := by have := hv1.2.1; omega
      have HV := hide hv1
      have HU := hide hv2
      have HVU := hide (hv1.mul hv2 (by rw [HLX.out, HLY.out]; omega))
      clear hv1 hv2
      go_wp2_with fail
      refine (mul_ok HV.out HU.out A B n m c d _ (L4.out.int (.head _)) (L4.out.int (.tail _ (.head _))) (by omega)).mono ?_
      rintro e w5 ⟨D, kD, rfl, hi, hb⟩
      have L5 := hide (L4.out.below hb)
      clear hb L4
      clear a0 a1 a2 b0 b1 b2
      have L6 := hide (L5.out.addI hi)
      clear hi L5
      have L7 := hide (L6.out.newR (.int .i64 (q : Int)) (.slice D (n + m) kD))
      clear L6
      obtain ⟨a0, a1, a2⟩ := L7.out.row (.tail _ (.head _))
      obtain ⟨b0, b1, b2⟩ := L7.out.row (.tail _ (.tail _ (.head _)))
      obtain ⟨g0, g1, g2⟩ := L7.out.row (.head _)
      go_wp2_with fail
      refine (bvalid_any (q : Int) xs A n c _ (L7.out.int (.tail _ (.head _))) HN.out).mono ?_
      rintro e w8 ⟨rfl, hb⟩
      have L8 := hide (L7.out.below hb)
      clear hb L7
      clear a0 a1 a2 b0 b1 b2 g0 g1 g2
      obtain ⟨a0, a1, a2⟩ := L8.out.row (.tail _ (.head _))
      obtain ⟨b0, b1, b2⟩ := L8.out.row (.tail _ (.tail _ (.head _)))
      obtain ⟨g0, g1, g2⟩ := L8.out.row (.head _)
      rw [Pl.vb_true HV.out]
      go_wp2_with fail
      refine (bvalid_any (q : Int) ys B m d _ (L8.out.int (.tail _ (.tail _ (.head _)))) HM.out).mono ?_
      rintro e w9 ⟨rfl, hb⟩
      have L9 := hide (L8.out.below hb)
      clear hb L8
      clear a0 a1 a2 b0 b1 b2 g0 g1 g2
      obtain ⟨a0, a1, a2⟩ := L9.out.row (.tail _ (.head _))
      obtain ⟨b0, b1, b2⟩ := L9.out.row (.tail _ (.tail _ (.head _)))
      obtain ⟨g0, g1, g2⟩ := L9.out.row (.head _)
      rw [Pl.vb_true HU.out]
      go_upto_region 10 with fail
      have L10 := hide L9.out.drew
      clear L9
      go_cut [9, 10] (fun s9 s10 wx => ∃ P Q : Option Addr, s9 = .slice P q q ∧ s10 = .slice Q q q ∧ LB w [(w5.heap.size, [.int .i64 (q : Int), .slice D (n + m) kD]), (w.heap.size, [.int .i64 (q : Int), .slice A n c]), (w.heap.size + 1, [.int .i64 (q : Int), .slice B m d]), (w.heap.size + 1 + 1, [.int .i64 r, .slice C k f])] [(Q, q, nats (Pl.pmR q ys)), (P, q, nats (Pl.pmR q xs)), (D, n + m, xs ++ ys), (A, n, xs), (B, m, ys), (C, k, zs)] wx)
      case first =>
       go_region_with (first
        | (go_at_call 23
           have hx := LP1
           refine Calls.mono (perm_yes HU.out B m d _ (LP1.out.int (.tail _ (.tail _ (.tail _ (.head _))))) HM.out) ?_
           rintro e wq ⟨Q, rfl, hQ, hb⟩
           have LP2 := hide ((LP1.out.below hb).addI hQ))
        | (go_at_call 23
           refine Calls.mono (perm_yes HV.out A n c _ (L10.out.int (.tail _ (.head _))) HN.out) ?_
           rintro e wp ⟨P, rfl, hP, hb⟩
           have LP1 := hide ((L10.out.below hb).addI hP)
           obtain ⟨a0, a1, a2⟩ := LP1.out.row (.tail _ (.head _))
           obtain ⟨b0, b1, b2⟩ := LP1.out.row (.tail _ (.tail _ (.head _)))))
       all_goals (go_wp2_with fail; go_meet)
       all_goals exact ⟨P, Q, rfl, rfl, LP2.out⟩
      case rest =>
       obtain ⟨P, Q, rfl, rfl, hL⟩ := hcut
       have L11 := hide hL
       clear hL L10
       clear a0 a1 a2 b0 b1 b2 g0 g1 g2
       obtain ⟨g0, g1, g2⟩ := L11.out.row (.head _)
       go_wp2_with fail
       refine (perm_yes HVU.out D (n + m) kD _ (L11.out.int (.tail _ (.tail _ (.head _)))) (by unfold maxLen; omega)).mono ?_
       rintro e w12 ⟨R, rfl, hR, hb⟩
       have L12 := hide (L11.out.below hb)
       clear hb L11
       clear g0 g1 g2
       have L13 := hide (L12.out.addI hR)
       clear hR L12
       obtain ⟨g0, g1, g2⟩ := L13.out.row (.head _)
       obtain ⟨a0, a1, a2⟩ := L13.out.row (.tail _ (.head _))
       obtain ⟨b0, b1, b2⟩ := L13.out.row (.tail _ (.tail _ (.head _)))
       go_upto_region 12 with fail
       obtain ⟨ea, hea⟩ : ∃ e, e = Pl.exW xs := ⟨_, rfl⟩
       obtain ⟨eb, heb⟩ : ∃ e, e = Pl.exW ys := ⟨_, rfl⟩
       have hab := Pl.exW_abs xs
       have hbb := Pl.exW_abs ys
       rw [HLX.out] at hab
       rw [HLY.out] at hbb
       have ea1 : -30 ≤ ea := by omega
       have ea2 : ea ≤ 30 := by omega
       have eb1 : -30 ≤ eb := by omega
       have eb2 : eb ≤ 30 := by omega
       have HEA := hide hea.symm
       have HEB := hide heb.symm
       have HEAB := hide (show Pl.exW (xs ++ ys) = ea + eb by rw [Pl.exW_append, hea, heb])
       clear hea heb hab hbb
       have L14 := hide L13.out.drew
       clear L13
       go_cut [104] (fun v wx => v = .bool false ∧ LB w [(w5.heap.size, [.int .i64 (q : Int), .slice D (n + m) kD]), (w.heap.size, [.int .i64 (q : Int), .slice A n c]), (w.heap.size + 1, [.int .i64 (q : Int), .slice B m d]), (w.heap.size + 1 + 1, [.int .i64 r, .slice C k f])] [(R, q, nats (Pl.pmR q (xs ++ ys))), (Q, q, nats (Pl.pmR q ys)), (P, q, nats (Pl.pmR q xs)), (D, n + m, xs ++ ys), (A, n, xs), (B, m, ys), (C, k, zs)] wx)
       case first =>
        go_region_held3 (fun w' => w'.cell? ⟨w5.heap.size, 0, none⟩ = some (.int .i64 (q : Int)) ∧ w'.cell? ⟨w5.heap.size, 1, none⟩ = some (.slice D (n + m) kD) ∧ w'.cell? ⟨w.heap.size, 0, none⟩ = some (.int .i64 (q : Int)) ∧ w'.cell? ⟨w.heap.size, 1, none⟩ = some (.slice A n c) ∧ w'.cell? ⟨w.heap.size + 1, 0, none⟩ = some (.int .i64 (q : Int)) ∧ w'.cell? ⟨w.heap.size + 1, 1, none⟩ = some (.slice B m d))
         (first | go_keep | assumption | (exact ⟨g0, g1, a0, a1, b0, b1⟩))
         (first
         | (go_at_call 26
            have hx := T2
            refine Calls.mono (exponent_is HEB.out HU.out B m d _ (T2.out.int (.tail _ (.tail _ (.tail _ (.tail _ (.tail _ (.head _))))))) HM.out) ?_
            rintro e w3 ⟨rfl, hb3⟩
            have T3 := hide (T2.out.below hb3)
            obtain ⟨g0, g1, g2⟩ := T3.out.row (.head _)
            obtain ⟨a0, a1, a2⟩ := T3.out.row (.tail _ (.head _))
            obtain ⟨b0, b1, b2⟩ := T3.out.row (.tail _ (.tail _ (.head _))))
         | (go_at_call 26
            have hx := T1
            refine Calls.mono (exponent_is HEA.out HV.out A n c _ (T1.out.int (.tail _ (.tail _ (.tail _ (.tail _ (.head _)))))) HN.out) ?_
            rintro e w2 ⟨rfl, hb2⟩
            have T2 := hide (T1.out.below hb2)
            obtain ⟨g0, g1, g2⟩ := T2.out.row (.head _)
            obtain ⟨a0, a1, a2⟩ := T2.out.row (.tail _ (.head _))
            obtain ⟨b0, b1, b2⟩ := T2.out.row (.tail _ (.tail _ (.head _))))
         | (go_at_call 26
            refine Calls.mono (exponent_is HEAB.out HVU.out D (n + m) kD _ (L14.out.int (.tail _ (.tail _ (.tail _ (.head _))))) (by unfold maxLen; omega)) ?_
            rintro e w1 ⟨rfl, hb1⟩
            have T1 := hide (L14.out.below hb1)
            obtain ⟨g0, g1, g2⟩ := T1.out.row (.head _)
            obtain ⟨a0, a1, a2⟩ := T1.out.row (.tail _ (.head _))
            obtain ⟨b0, b1, b2⟩ := T1.out.row (.tail _ (.tail _ (.head _)))))
        all_goals (go_wp2_with fail; go_meet)
        all_goals exact ⟨by rw [IntWalk.i64_in _ (by omega)]; simp, T3.out⟩
       case rest =>
        obtain ⟨rfl, hL⟩ := hcut
        clear a0 a1 a2 b0 b1 b2 g0 g1 g2
        clear L14 ea1 ea2 eb1 eb2 HEA HEB HEAB
        have L14 := hide hL
        clear hL
        have HMUL := hide (show ∀ u, u < q → (Pl.pmR q (xs ++ ys)).getD u 0 = (Pl.pmR q ys).getD ((Pl.pmR q xs).getD u 0) 0 ∧ (Pl.pmR q xs).getD u 0 < q from fun u hu => by
         have h1 := HV.out.ok
         rw [Int.toNat_natCast] at h1
         exact ⟨Pl.pmR_mul h1 hu, by rw [Pl.pmR_get xs hu]; exact Pl.trk_lt h1 hu⟩)
        go_wp2_with fail
        go_loopg [12, 107] q (fun g s12 ix wx => ∃ u : Nat, u + g = q ∧ ix = .int .i64 (u : Int) ∧ LB w [(w5.heap.size, [.int .i64 (q : Int), .slice D (n + m) kD]), (w.heap.size, [.int .i64 (q : Int), .slice A n c]), (w.heap.size + 1, [.int .i64 (q : Int), .slice B m d]), (w.heap.size + 1 + 1, [.int .i64 r, .slice C k f])] [(R, q, nats (Pl.pmR q (xs ++ ys))), (Q, q, nats (Pl.pmR q ys)), (P, q, nats (Pl.pmR q xs)), (D, n + m, xs ++ ys), (A, n, xs), (B, m, ys), (C, k, zs)] wx)
        case atStart => exact ⟨0, by omega, rfl, L14.out⟩
        case round =>
         clear L14
         obtain ⟨u, hug, rfl, hL⟩ := hrel
         have HUG := hide hug
         have M0 := hide hL
         have huq : u ≤ q := by omega
         clear hug hL
         by_cases hlt : u < q
         ·have hui : (u : Int) < (q : Int) := by omega
          have u0 : (0 : Int) ≤ (u : Int) := by omega
          obtain ⟨e1, e2⟩ := HMUL.out u hlt
          obtain ⟨bp, op, rfl, cp⟩ := nats_at (M0.out.int (.tail _ (.tail _ (.head _)))) (k := u) hlt
          obtain ⟨br, or, rfl, cr⟩ := nats_at (M0.out.int (.head _)) (k := u) hlt
          obtain ⟨v, hv⟩ : ∃ v, v = (Pl.pmR q xs).getD u 0 := ⟨_, rfl⟩
          rw [← hv] at e1 e2 cp
          clear hv
          obtain ⟨bq, oq, rfl, cq⟩ := nats_at (M0.out.int (.tail _ (.head _))) (k := v) e2
          rw [e1] at cr
          obtain ⟨x, hx⟩ : ∃ x, x = (Pl.pmR q ys).getD v 0 := ⟨_, rfl⟩
          rw [← hx] at cr cq
          have v0 : (0 : Int) ≤ (v : Int) := by omega
          have v1 : (v : Int) < (q : Int) := by omega
          clear hx e1
          go_upto_region 17 with fail
          go_quiet (fail)
          have M1 := hide (M0.out.below (below_drewN (Below.refl _ _) nq))
          go_wp2_with fail
          go_roundg (gk - 1)
          case measure => have := HUG.out; omega
          case rel => exact ⟨u + 1, by have := HUG.out; omega, by go_num, M1.out⟩
         ·have hui : ¬ ((u : Int) < (q : Int)) := by omega
          have L30 := hide M0.out
          clear M0 hlt HUG HMUL
          have HII := hide (show Pl.BV (q : Int) (Pl.ivW xs) from HV.out.inv)
          have HVI := hide (show Pl.BV (q : Int) (xs ++ Pl.ivW xs) from HV.out.mul HV.out.inv (by rw [Pl.ivW_len, HLX.out]; omega))
          have HRD := hide (Pl.rdW_inv xs)
          obtain ⟨a0, a1, a2⟩ := L30.out.row (.tail _ (.head _))
          go_upto_region 20 with fail
          go_cut [13, 14] (fun s13 s14 wx => ∃ (g13 : Nat) (E : Option Addr) (kE : Nat), s13 = .pointer (some ⟨g13, 0, none⟩) ∧ s14 = .int .i64 0 ∧ LB w [(g13, [.int .i64 (q : Int), .slice E (n + n) kE]), (w5.heap.size, [.int .i64 (q : Int), .slice D (n + m) kD]), (w.heap.size, [.int .i64 (q : Int), .slice A n c]), (w.heap.size + 1, [.int .i64 (q : Int), .slice B m d]), (w.heap.size + 1 + 1, [.int .i64 r, .slice C k f])] [(E, n + n, xs ++ Pl.ivW xs), (R, q, nats (Pl.pmR q (xs ++ ys))), (Q, q, nats (Pl.pmR q ys)), (P, q, nats (Pl.pmR q xs)), (D, n + m, xs ++ ys), (A, n, xs), (B, m, ys), (C, k, zs)] wx)
          case first =>
           go_region_held3 (fun w' => w'.cell? ⟨w.heap.size, 0, none⟩ = some (.int .i64 (q : Int)) ∧ w'.cell? ⟨w.heap.size, 1, none⟩ = some (.slice A n c) ∧ KB wr w')
            ((go_split_ands; refine KB.one L30.out (.tail _ (.head _)) ?_; (repeat (first | (with_reducible assumption) | (with_reducible exact KB.refl _) | (with_reducible refine KB.drew ?_) | (with_reducible refine KB.alloc ?_ _) | (with_reducible refine KB.set ?_ ?_) | (with_reducible refine KB.below ?_ hb2) | (with_reducible refine KB.below ?_ hb1) | omega))))
            (first
            | (go_at_call 33
               have hx := hb1
               refine Calls.mono (mul_okT HV.out HII.out A I n n c kI _ (LB.int (KB.lb ?_ L30.out) (.tail _ (.tail _ (.tail _ (.tail _ (.head _)))))) ?_ (by omega)) ?_
               ·(repeat (first | (with_reducible assumption) | (with_reducible exact KB.refl _) | (with_reducible refine KB.drew ?_) | (with_reducible refine KB.alloc ?_ _) | (with_reducible refine KB.set ?_ ?_) | (with_reducible refine KB.below ?_ hb1) | omega))
               ·(repeat (first | (with_reducible exact hI1) | (with_reducible refine IntsAt.drew ?_) | (with_reducible refine IntsAt.alloc ?_ _)))
               rintro e w2 ⟨E, kE, rfl, hE, hb2⟩
               have z2 := hb2.size
               try simp at z2
               try ((have qr : Row w2 (wr.heap.size) 24 [.int .i64 0, .slice none 0 0] := by (refine Row.below ?_ hb2; (repeat (first | (with_reducible refine Row2.new ?_; (first | rfl | (simp; done))) | (with_reducible refine Row.drew ?_) | (with_reducible refine Row.alloc ?_ _) | (with_reducible refine Row.below ?_ hb2) | (with_reducible refine Row.below ?_ hb1))); done)); (obtain ⟨qa, qb, qc⟩ := box2b qr); (have ql := qr.lt); (clear qr))
               try ((have qr : Row w2 (w1.heap.size) 24 [.int .i64 0, .slice none 0 0] := by (refine Row.below ?_ hb2; (repeat (first | (with_reducible refine Row2.new ?_; (first | rfl | (simp; done))) | (with_reducible refine Row.drew ?_) | (with_reducible refine Row.alloc ?_ _) | (with_reducible refine Row.below ?_ hb2) | (with_reducible refine Row.below ?_ hb1))); done)); (obtain ⟨qa, qb, qc⟩ := box2b qr); (have ql := qr.lt); (clear qr)))
            | (go_at_call 24
               refine Calls.mono (inverse_yes HV.out A n c _ (LB.int (KB.lb ?_ L30.out) (.tail _ (.tail _ (.tail _ (.tail _ (.head _)))))) HN.out) ?_
               ·(repeat (first | (with_reducible assumption) | (with_reducible exact KB.refl _) | (with_reducible refine KB.drew ?_) | (with_reducible refine KB.alloc ?_ _)))
               rintro e w1 ⟨I, kI, rfl, hI1, hb1⟩
               have z1 := hb1.size
               try simp at z1
               try ((have qr : Row w1 (wr.heap.size) 24 [.int .i64 0, .slice none 0 0] := by (refine Row.below ?_ hb1; (repeat (first | (with_reducible refine Row2.new ?_; (first | rfl | (simp; done))) | (with_reducible refine Row.drew ?_) | (with_reducible refine Row.alloc ?_ _) | (with_reducible refine Row.below ?_ hb1))); done)); (obtain ⟨qa, qb, qc⟩ := box2b qr); (have ql := qr.lt); (clear qr))))
           all_goals (go_wp2_with fail; go_meet)
           all_goals (have HKB := hide (‹_ ∧ _ ∧ KB wr _›).2.2)
           all_goals refine ⟨_, E, kE, rfl, rfl, LB.put (LB.addI (HKB.out.lb L30.out) (RowT.row (t := 3) ?_)) ?_⟩
           all_goals (repeat' (first
            | (with_reducible assumption)
            | (with_reducible refine Row2.new ?_; (first | rfl | (simp; done)))
            | (with_reducible refine Row2.s1 (b := .slice none 0 0) ?_)
            | (with_reducible refine Row2.s0 (a := .int .i64 0) ?_)
            | (with_reducible refine Row.alloc ?_ _)
            | (with_reducible refine Row.drew ?_)
            | (with_reducible refine Row.below ?_ hb2)
            | (with_reducible refine Row.below ?_ hb1)
            | (with_reducible refine RowT.store (i := 1) (t' := 24) (vs := [.int .i64 (q : Int), .slice none 0 0]) ?_ ?_ (by decide) _)
            | (with_reducible refine RowT.store (i := 0) (t' := 24) (vs := [.int .i64 0, .slice none 0 0]) ?_ ?_ (by decide) _)
            | (with_reducible refine RowT.alloc ?_ _)
            | (with_reducible refine RowT.drew ?_)))
          case rest =>
           obtain ⟨g13, E, kE, rfl, rfl, hL⟩ := hcut
           have L40 := hide hL
           obtain ⟨π, hπ⟩ : ∃ π, π = n % 2 := ⟨_, rfl⟩
           have hπ1 : π ≤ 1 := by omega
           have HPI := hide (show π = xs.length % 2 by rw [HLX.out]; exact hπ)
           have t1 : (n : Int).tmod 2 = (π : Int) := by rw [Int.tmod_eq_emod_of_nonneg (by omega)]; omega
           have HSG := hide (show IntKind.i64.wrap (1 - IntKind.i64.wrap (2 * (π : Int))) = 1 - 2 * (π : Int) by rw [IntWalk.i64_in (2 * (π : Int)) (by omega), IntWalk.i64_in _ (by omega)])
           clear hL hπ a0 a1 a2
           obtain ⟨o0, o1, o2⟩ := L40.out.row (.head _)
           obtain ⟨a0, a1, a2⟩ := L40.out.row (.tail _ (.tail _ (.head _)))
           go_upto_region 21 with fail
           have L41 := hide L40.out.drew
           have hfld := fun (I : Option Addr) (kI : Nat) (W : World) => field_b1 (.int .i64 (q : Int)) (.slice I 0 kI) W
           go_cut [149] (fun v wx => v = .bool false ∧ LB w [(g13, [.int .i64 (q : Int), .slice E (n + n) kE]), (w5.heap.size, [.int .i64 (q : Int), .slice D (n + m) kD]), (w.heap.size, [.int .i64 (q : Int), .slice A n c]), (w.heap.size + 1, [.int .i64 (q : Int), .slice B m d]), (w.heap.size + 1 + 1, [.int .i64 r, .slice C k f])] [(E, n + n, xs ++ Pl.ivW xs), (R, q, nats (Pl.pmR q (xs ++ ys))), (Q, q, nats (Pl.pmR q ys)), (P, q, nats (Pl.pmR q xs)), (D, n + m, xs ++ ys), (A, n, xs), (B, m, ys), (C, k, zs)] wx)
           case first =>
            go_region_held3 (fun w' => w'.cell? ⟨g13, 0, none⟩ = some (.int .i64 (q : Int)) ∧ w'.cell? ⟨g13, 1, none⟩ = some (.slice E (n + n) kE) ∧ w'.cell? ⟨w.heap.size, 1, none⟩ = some (.slice A n c))
             (first | go_keep | assumption | (exact ⟨o0, o1, a1⟩))
             (first
             | (go_at_call 34
                have hx := T1
                refine Calls.mono (psign_is HPI.out HV.out P q _ (T1.out.int (.tail _ (.tail _ (.tail _ (.head _)))))) ?_
                rintro e w2 ⟨rfl, hb2⟩
                have T2 := hide (T1.out.below hb2)
                obtain ⟨o0, o1, o2⟩ := T2.out.row (.head _)
                obtain ⟨a0, a1, a2⟩ := T2.out.row (.tail _ (.tail _ (.head _))))
             | (go_at_call 25
                refine Calls.mono (reduce_nil HRD.out HVI.out E (n + n) kE _ (L41.out.int (.head _)) (by unfold maxLen; omega)) ?_
                rintro e w1 ⟨I, kI, rfl, hb1⟩
                have T1 := hide (L41.out.below hb1)
                obtain ⟨o0, o1, o2⟩ := T1.out.row (.head _)
                obtain ⟨a0, a1, a2⟩ := T1.out.row (.tail _ (.tail _ (.head _)))))
            all_goals (go_wp2_with fail; go_meet)
            all_goals exact ⟨by first | rfl | (rw [HSG.out]; simp; done) | (simp [HSG.out]; done), T2.out⟩
           case rest =>
            obtain ⟨rfl, hL⟩ := hcut
            have L42 := hide hL
            clear hL hfld L40 L41 t1 HSG HPI hπ1 o0 o1 o2 a0 a1 a2
            have hw2 : ¬ Pl.BV 0 [] := fun h => by have := h.1; omega
            have HNO := hide hw2
            clear hw2
            by_cases hz : Pl.BV r zs
            ·by_cases hrq : r = (q : Int)
             ·subst hrq
              have HZ := hide hz
              have HVUZ := hide (HVU.out.mul hz (by rw [List.length_append, HLX.out, HLY.out, HLZ.out]; omega))
              have HUZ := hide (HU.out.mul hz (by rw [HLY.out, HLZ.out]; omega))
              clear hz
              obtain ⟨g0, g1, g2⟩ := L42.out.row (.tail _ (.head _))
              obtain ⟨c0, c1, c2⟩ := L42.out.row (.tail _ (.tail _ (.tail _ (.tail _ (.head _)))))
              go_wp2_with fail
              refine (mul_ok HVU.out HZ.out D C (n + m) k kD f _ (L42.out.int (.tail _ (.tail _ (.tail _ (.tail _ (.head _)))))) (L42.out.int (.tail _ (.tail _ (.tail _ (.tail _ (.tail _ (.tail _ (.tail _ (.head _))))))))) (by omega)).mono ?_
              rintro e w43 ⟨X, kX, rfl, hi, hb⟩
              have L43 := hide (L42.out.below hb)
              clear hb L42
              clear g0 g1 g2 c0 c1 c2
              have L44 := hide (L43.out.addI hi)
              clear hi L43
              have L45 := hide (L44.out.newR (.int .i64 (q : Int)) (.slice X (n + m + k) kX))
              clear L44
              obtain ⟨b0, b1, b2⟩ := L45.out.row (.tail _ (.tail _ (.tail _ (.tail _ (.head _)))))
              obtain ⟨c0, c1, c2⟩ := L45.out.row (.tail _ (.tail _ (.tail _ (.tail _ (.tail _ (.head _))))))
              go_wp2_with fail
              refine (mul_ok HU.out HZ.out B C m k d f _ (L45.out.int (.tail _ (.tail _ (.tail _ (.tail _ (.tail _ (.tail _ (.tail _ (.head _))))))))) (L45.out.int (.tail _ (.tail _ (.tail _ (.tail _ (.tail _ (.tail _ (.tail _ (.tail _ (.head _)))))))))) (by omega)).mono ?_
              rintro e w46 ⟨Y, kY, rfl, hi, hb⟩
              have L46 := hide (L45.out.below hb)
              clear hb L45
              clear b0 b1 b2 c0 c1 c2
              have L47 := hide (L46.out.addI hi)
              clear hi L46
              have L48 := hide (L47.out.newR (.int .i64 (q : Int)) (.slice Y (m + k) kY))
              clear L47
              obtain ⟨a0, a1, a2⟩ := L48.out.row (.tail _ (.tail _ (.tail _ (.tail _ (.head _)))))
              obtain ⟨y0, y1, y2⟩ := L48.out.row (.head _)
              go_wp2_with fail
              refine (mul_ok HV.out HUZ.out A Y n (m + k) c kY _ (L48.out.int (.tail _ (.tail _ (.tail _ (.tail _ (.tail _ (.tail _ (.tail _ (.head _))))))))) (L48.out.int (.head _)) (by omega)).mono ?_
              rintro e w49 ⟨Z, kZ, rfl, hi, hb⟩
              have L49 := hide (L48.out.below hb)
              clear hb L48
              clear a0 a1 a2 y0 y1 y2
              have L50 := hide (L49.out.addI hi)
              clear hi L49
              have L51 := hide (L50.out.newR (.int .i64 (q : Int)) (.slice Z (n + (m + k)) kZ))
              clear L50
              obtain ⟨a0, a1, a2⟩ := L51.out.row (.tail _ (.tail _ (.tail _ (.tail _ (.tail _ (.head _))))))
              obtain ⟨c0, c1, c2⟩ := L51.out.row (.tail _ (.tail _ (.tail _ (.tail _ (.tail _ (.tail _ (.tail _ (.head _))))))))
              obtain ⟨x0, x1, x2⟩ := L51.out.row (.tail _ (.tail _ (.head _)))
              obtain ⟨z0, z1, z2⟩ := L51.out.row (.head _)
              go_wp2_with fail
              refine (bvalid_any (q : Int) zs C k f _ (L51.out.int (.tail _ (.tail _ (.tail _ (.tail _ (.tail _ (.tail _ (.tail _ (.tail _ (.tail _ (.tail _ (.head _)))))))))))) HK.out).mono ?_
              rintro e w52 ⟨rfl, hb⟩
              have L52 := hide (L51.out.below hb)
              clear hb L51
              clear a0 a1 a2 c0 c1 c2 x0 x1 x2 z0 z1 z2
              obtain ⟨a0, a1, a2⟩ := L52.out.row (.tail _ (.tail _ (.tail _ (.tail _ (.tail _ (.head _))))))
              obtain ⟨c0, c1, c2⟩ := L52.out.row (.tail _ (.tail _ (.tail _ (.tail _ (.tail _ (.tail _ (.tail _ (.head _))))))))
              obtain ⟨x0, x1, x2⟩ := L52.out.row (.tail _ (.tail _ (.head _)))
              obtain ⟨z0, z1, z2⟩ := L52.out.row (.head _)
              rw [Pl.vb_true HZ.out]
              go_wp2_with fail
              refine (bsame_any (q : Int) (q : Int) (xs ++ ys ++ zs) (xs ++ (ys ++ zs)) X Z (n + m + k) (n + (m + k)) kX kZ _ (L52.out.int (.tail _ (.tail _ (.head _)))) (L52.out.int (.head _)) (by omega) (by omega)).mono ?_
              rintro e w53 ⟨rfl, hb⟩
              have L53 := hide (L52.out.below hb)
              clear hb L52
              clear a0 a1 a2 c0 c1 c2 x0 x1 x2 z0 z1 z2
              rw [Pl.vb_true ⟨rfl, List.append_assoc _ _ _⟩]
              go_wp2
              go_ret
              exact ⟨rfl, L53.out.bel⟩
             ·skip
              obtain ⟨g0, g1, g2⟩ := L42.out.row (.tail _ (.head _))
              obtain ⟨c0, c1, c2⟩ := L42.out.row (.tail _ (.tail _ (.tail _ (.tail _ (.head _)))))
              go_wp2_with fail
              refine (mul_ne HVU.out hz (fun e => hrq e.symm) D C (n + m) k kD f _ (L42.out.int (.tail _ (.tail _ (.tail _ (.tail _ (.head _)))))) (L42.out.int (.tail _ (.tail _ (.tail _ (.tail _ (.tail _ (.tail _ (.tail _ (.head _))))))))) (by omega)).mono ?_
              rintro e w43 ⟨rfl, hb⟩
              have L43 := hide (L42.out.below hb)
              clear hb L42
              clear g0 g1 g2 c0 c1 c2
              have L44 := hide (L43.out.newR (.int .i64 0) (.slice none 0 0))
              clear L43
              obtain ⟨b0, b1, b2⟩ := L44.out.row (.tail _ (.tail _ (.tail _ (.tail _ (.head _)))))
              obtain ⟨c0, c1, c2⟩ := L44.out.row (.tail _ (.tail _ (.tail _ (.tail _ (.tail _ (.head _))))))
              go_wp2_with fail
              refine (mul_ne HU.out hz (fun e => hrq e.symm) B C m k d f _ (L44.out.int (.tail _ (.tail _ (.tail _ (.tail _ (.tail _ (.tail _ (.head _)))))))) (L44.out.int (.tail _ (.tail _ (.tail _ (.tail _ (.tail _ (.tail _ (.tail _ (.head _))))))))) (by omega)).mono ?_
              rintro e w45 ⟨rfl, hb⟩
              have L45 := hide (L44.out.below hb)
              clear hb L44
              clear b0 b1 b2 c0 c1 c2
              have L46 := hide (L45.out.newR (.int .i64 0) (.slice none 0 0))
              clear L45
              obtain ⟨a0, a1, a2⟩ := L46.out.row (.tail _ (.tail _ (.tail _ (.tail _ (.head _)))))
              obtain ⟨y0, y1, y2⟩ := L46.out.row (.head _)
              go_wp2_with fail
              refine (mul_no (xs := xs) (ys := []) (fun h => HNO.out h.2) A none n 0 c 0 _ (L46.out.int (.tail _ (.tail _ (.tail _ (.tail _ (.tail _ (.head _))))))) (RowAt.nil _) (by omega)).mono ?_
              rintro e w47 ⟨rfl, hb⟩
              have L47 := hide (L46.out.below hb)
              clear hb L46
              clear a0 a1 a2 y0 y1 y2
              have L48 := hide (L47.out.newR (.int .i64 0) (.slice none 0 0))
              clear L47
              obtain ⟨a0, a1, a2⟩ := L48.out.row (.tail _ (.tail _ (.tail _ (.tail _ (.tail _ (.head _))))))
              obtain ⟨c0, c1, c2⟩ := L48.out.row (.tail _ (.tail _ (.tail _ (.tail _ (.tail _ (.tail _ (.tail _ (.head _))))))))
              go_wp2_with fail
              refine (bvalid_any r zs C k f _ (L48.out.int (.tail _ (.tail _ (.tail _ (.tail _ (.tail _ (.tail _ (.tail _ (.head _))))))))) HK.out).mono ?_
              rintro e w49 ⟨rfl, hb⟩
              have L49 := hide (L48.out.below hb)
              clear hb L48
              clear a0 a1 a2 c0 c1 c2
              obtain ⟨a0, a1, a2⟩ := L49.out.row (.tail _ (.tail _ (.tail _ (.tail _ (.tail _ (.head _))))))
              obtain ⟨c0, c1, c2⟩ := L49.out.row (.tail _ (.tail _ (.tail _ (.tail _ (.tail _ (.tail _ (.tail _ (.head _))))))))
              rw [Pl.vb_true hz]
              have hrb : (r != (q : Int)) = true := by rw [bne_iff_ne]; exact hrq
              clear hrq hz
              go_wp2
              go_ret
              exact ⟨rfl, L49.out.bel⟩
            ·skip
             obtain ⟨g0, g1, g2⟩ := L42.out.row (.tail _ (.head _))
             obtain ⟨c0, c1, c2⟩ := L42.out.row (.tail _ (.tail _ (.tail _ (.tail _ (.head _)))))
             go_wp2_with fail
             refine (mul_no (fun h => hz h.2) D C (n + m) k kD f _ (L42.out.int (.tail _ (.tail _ (.tail _ (.tail _ (.head _)))))) (L42.out.int (.tail _ (.tail _ (.tail _ (.tail _ (.tail _ (.tail _ (.tail _ (.head _))))))))) (by omega)).mono ?_
             rintro e w43 ⟨rfl, hb⟩
             have L43 := hide (L42.out.below hb)
             clear hb L42
             clear g0 g1 g2 c0 c1 c2
             have L44 := hide (L43.out.newR (.int .i64 0) (.slice none 0 0))
             clear L43
             obtain ⟨b0, b1, b2⟩ := L44.out.row (.tail _ (.tail _ (.tail _ (.tail _ (.head _)))))
             obtain ⟨c0, c1, c2⟩ := L44.out.row (.tail _ (.tail _ (.tail _ (.tail _ (.tail _ (.head _))))))
             go_wp2_with fail
             refine (mul_no (fun h => hz h.2) B C m k d f _ (L44.out.int (.tail _ (.tail _ (.tail _ (.tail _ (.tail _ (.tail _ (.head _)))))))) (L44.out.int (.tail _ (.tail _ (.tail _ (.tail _ (.tail _ (.tail _ (.tail _ (.head _))))))))) (by omega)).mono ?_
             rintro e w45 ⟨rfl, hb⟩
             have L45 := hide (L44.out.below hb)
             clear hb L44
             clear b0 b1 b2 c0 c1 c2
             have L46 := hide (L45.out.newR (.int .i64 0) (.slice none 0 0))
             clear L45
             obtain ⟨a0, a1, a2⟩ := L46.out.row (.tail _ (.tail _ (.tail _ (.tail _ (.head _)))))
             obtain ⟨y0, y1, y2⟩ := L46.out.row (.head _)
             go_wp2_with fail
             refine (mul_no (xs := xs) (ys := []) (fun h => HNO.out h.2) A none n 0 c 0 _ (L46.out.int (.tail _ (.tail _ (.tail _ (.tail _ (.tail _ (.head _))))))) (RowAt.nil _) (by omega)).mono ?_
             rintro e w47 ⟨rfl, hb⟩
             have L47 := hide (L46.out.below hb)
             clear hb L46
             clear a0 a1 a2 y0 y1 y2
             have L48 := hide (L47.out.newR (.int .i64 0) (.slice none 0 0))
             clear L47
             obtain ⟨a0, a1, a2⟩ := L48.out.row (.tail _ (.tail _ (.tail _ (.tail _ (.tail _ (.head _))))))
             obtain ⟨c0, c1, c2⟩ := L48.out.row (.tail _ (.tail _ (.tail _ (.tail _ (.tail _ (.tail _ (.tail _ (.head _))))))))
             go_wp2_with fail
             refine (bvalid_any r zs C k f _ (L48.out.int (.tail _ (.tail _ (.tail _ (.tail _ (.tail _ (.tail _ (.tail _ (.head _))))))))) HK.out).mono ?_
             rintro e w49 ⟨rfl, hb⟩
             have L49 := hide (L48.out.below hb)
             clear hb L48
             clear a0 a1 a2 c0 c1 c2
             obtain ⟨a0, a1, a2⟩ := L49.out.row (.tail _ (.tail _ (.tail _ (.tail _ (.tail _ (.head _))))))
             obtain ⟨c0, c1, c2⟩ := L49.out.row (.tail _ (.tail _ (.tail _ (.tail _ (.tail _ (.tail _ (.tail _ (.head _))))))))
             rw [Pl.vb_false hz]
             clear hz
             go_wp2
             go_ret
             exact ⟨rfl, L49.out.bel⟩
     ·skip
      obtain ⟨hv1, hv2⟩ := (⟨HV0.out, HU0.out⟩ : Pl.BV s xs ∧ Pl.BV t ys)
      go_wp2_with fail
      refine (mul_ne HV0.out HU0.out hst A B n m c d _ (L4.out.int (.head _)) (L4.out.int (.tail _ (.head _))) (by omega)).mono ?_
      rintro e w5 ⟨rfl, hb⟩
      have L5 := hide (L4.out.below hb)
      clear hb L4
      clear a0 a1 a2 b0 b1 b2
      have L6 := hide (L5.out.newR (.int .i64 0) (.slice none 0 0))
      clear L5
      obtain ⟨a0, a1, a2⟩ := L6.out.row (.tail _ (.head _))
      obtain ⟨b0, b1, b2⟩ := L6.out.row (.tail _ (.tail _ (.head _)))
      obtain ⟨g0, g1, g2⟩ := L6.out.row (.head _)
      go_wp2_with fail
      refine (bvalid_any s xs A n c _ (L6.out.int (.head _)) HN.out).mono ?_
      rintro e w7 ⟨rfl, hb⟩
      have L7 := hide (L6.out.below hb)
      clear hb L6
      clear a0 a1 a2 b0 b1 b2 g0 g1 g2
      obtain ⟨a0, a1, a2⟩ := L7.out.row (.tail _ (.head _))
      obtain ⟨b0, b1, b2⟩ := L7.out.row (.tail _ (.tail _ (.head _)))
      obtain ⟨g0, g1, g2⟩ := L7.out.row (.head _)
      rw [Pl.vb_true HV0.out]
      go_wp2_with fail
      refine (bvalid_any t ys B m d _ (L7.out.int (.tail _ (.head _))) HM.out).mono ?_
      rintro e w8 ⟨rfl, hb⟩
      have L8 := hide (L7.out.below hb)
      clear hb L7
      clear a0 a1 a2 b0 b1 b2 g0 g1 g2
      obtain ⟨a0, a1, a2⟩ := L8.out.row (.tail _ (.head _))
      obtain ⟨b0, b1, b2⟩ := L8.out.row (.tail _ (.tail _ (.head _)))
      obtain ⟨g0, g1, g2⟩ := L8.out.row (.head _)
      rw [Pl.vb_true HU0.out]
      have hne : (s != t) = true := by rw [bne_iff_ne]; exact hst
      clear hst hv1 hv2
      go_wp2_with fail
      refine (bsame_any 0 0 [] [] none none 0 0 0 0 _ (RowAt.nil _) (RowAt.nil _) (by omega) (by omega)).mono ?_
      rintro e w9 ⟨rfl, hb⟩
      have L9 := hide (L8.out.below hb)
      clear hb L8
      clear a0 a1 a2 b0 b1 b2 g0 g1 g2
      rw [Pl.vb_true ⟨rfl, rfl⟩]
      go_wp2
      go_ret
      exact ⟨rfl, L9.out.bel⟩
    ·skip
     go_wp2_with fail
     refine (mul_no hv A B n m c d _ (L4.out.int (.head _)) (L4.out.int (.tail _ (.head _))) (by omega)).mono ?_
     rintro e w5 ⟨rfl, hb⟩
     have L5 := hide (L4.out.below hb)
     clear hb L4
     clear a0 a1 a2 b0 b1 b2
     have L6 := hide (L5.out.newR (.int .i64 0) (.slice none 0 0))
     clear L5
     obtain ⟨a0, a1, a2⟩ := L6.out.row (.tail _ (.head _))
     obtain ⟨b0, b1, b2⟩ := L6.out.row (.tail _ (.tail _ (.head _)))
     obtain ⟨g0, g1, g2⟩ := L6.out.row (.head _)
     go_wp2_with fail
     refine (bvalid_any s xs A n c _ (L6.out.int (.head _)) HN.out).mono ?_
     rintro e w7 ⟨rfl, hb⟩
     have L7 := hide (L6.out.below hb)
     clear hb L6
     clear a0 a1 a2 b0 b1 b2 g0 g1 g2
     obtain ⟨a0, a1, a2⟩ := L7.out.row (.tail _ (.head _))
     obtain ⟨b0, b1, b2⟩ := L7.out.row (.tail _ (.tail _ (.head _)))
     obtain ⟨g0, g1, g2⟩ := L7.out.row (.head _)
     by_cases ha : Pl.BV s xs
     ·rw [Pl.vb_true ha]
      have hu : ¬ Pl.BV t ys := fun h => hv ⟨ha, h⟩
      clear hv
      go_wp2_with fail
      refine (bvalid_any t ys B m d _ (L7.out.int (.tail _ (.head _))) HM.out).mono ?_
      rintro e w8 ⟨rfl, hb⟩
      have L8 := hide (L7.out.below hb)
      clear hb L7
      clear a0 a1 a2 b0 b1 b2 g0 g1 g2
      obtain ⟨g0, g1, g2⟩ := L8.out.row (.head _)
      rw [Pl.vb_false hu]
      go_wp2_with fail
      refine (bsame_any 0 0 [] [] none none 0 0 0 0 _ (RowAt.nil _) (RowAt.nil _) (by omega) (by omega)).mono ?_
      rintro e w9 ⟨rfl, hb⟩
      have L9 := hide (L8.out.below hb)
      clear hb L8
      clear g0 g1 g2
      rw [Pl.vb_true ⟨rfl, rfl⟩]
      go_wp2
      go_ret
      exact ⟨rfl, L9.out.bel⟩
     ·rw [Pl.vb_false ha]
      go_wp2_with fail
      refine (bsame_any 0 0 [] [] none none 0 0 0 0 _ (RowAt.nil _) (RowAt.nil _) (by omega) (by omega)).mono ?_
      rintro e w8 ⟨rfl, hb⟩
      have L8 := hide (L7.out.below hb)
      clear hb L7
      clear a0 a1 a2 b0 b1 b2 g0 g1 g2
      rw [Pl.vb_true ⟨rfl, rfl⟩]
      go_wp2
      go_ret
      exact ⟨rfl, L8.out.bel⟩
theorem braidProducts_walk (s : Int) (xs : List Int) (A : Option Addr) (n c : Nat) (t : Int) (ys : List Int) (B : Option Addr) (m d : Nat) (r : Int) (zs : List Int) (C : Option Addr) (k f : Nat) (w : World) (hx : IntsAt w A n xs) (hn : n ≤ maxLen) (hy : IntsAt w B m ys) (hm : m ≤ maxLen) (hz : IntsAt w C k zs) (hk : k ≤ maxLen) (hg : GV w) (hw0 : 0 < w.heap.size) :
 Calls Tryd.prog 9 #[.agg #[.int .i64 s, .slice A n c], .agg #[.int .i64 t, .slice B m d], .agg #[.int .i64 r, .slice C k f]] w fun e w' => e = .returned (.bool true) ∧ Below w.heap.size w w' :=
 braidProducts_all s t r xs ys zs A B C n m k c d f w hx hy hz hn hm hk hg hw0
end Go.Proofs.YtcaoblilkgajoaaDoor
end
