/-
  The texts Xi, Dc in one.
-/
import Derived.Test.YtobbepmlmbbamaaBAV25
import Derived.Test.YtobbepmlmbbamaaBAV11
import Derived.Test.YtobbepmlmbbamaaBAV07
set_option linter.unusedVariables false
set_option linter.unusedSimpArgs false

section
/-
  Walks: the law on the limits (MovesFull).
-/
namespace Go.Proofs.Ytobbepmlmbbamaa
open Go Go.RowKit

theorem ResC.any {c : Int} {r : Pl.Dg} {mv : Mv} {w : World} {e : Ending} {w' : World} (h : ResC c r mv w e w') :
    ∃ (A B : Option Addr) (n m c1 c2 : Nat) (l k x y s : Int) (o : Bool), e = .returned (.tuple #[.agg #[.slice A n c1, .slice B m c2, .int .i64 l], .agg #[.int .i64 k, .int .i64 x, .int .i64 y, .int .i64 s, .bool o], .int .i64 c]) ∧ Below w.heap.size w w' := by
  obtain ⟨h1, h2, hb⟩ := h
  by_cases hc : c = 0
  · obtain ⟨A, B, c1, c2, k, x, y, s, o, _, he, _⟩ := (h2 hc).split
    rw [hc]
    exact ⟨A, B, _, _, c1, c2, _, k, x, y, s, o, he, hb⟩
  · exact ⟨none, none, 0, 0, 0, 0, 0, 0, 0, 0, 0, false, h1 hc, hb⟩
theorem apK (j : Nat) (hj : j < 64) (A B : Option Addr) (c1 c2 : Nat) (w : World) (hg : DgT w A B (kinks j)) :
    Calls Try.prog 22 #[.agg #[.slice A j c1, .slice B (4 * j) c2, .int .i64 ((64 - j : Nat) : Int)], .agg #[.int .i64 1, .int .i64 (-1), .int .i64 0, .int .i64 1, .bool false]] w
    fun e w' => ∃ (A' B' : Option Addr) (c1' c2' : Nat), e = .returned (.tuple #[.agg #[.slice A' (j + 1) c1', .slice B' (4 * (j + 1)) c2', .int .i64 ((64 - (j + 1) : Nat) : Int)], .agg #[.int .i64 2, .int .i64 (j : Int), .int .i64 0, .int .i64 0, .bool false], .int .i64 0]) ∧ DgT w' A' B' (kinks (j + 1)) ∧ Below w.heap.size w w' := by
  have hn := kinks_n j
  have hl := kinks_lp j
  have h := apply_1 (kinks j) (kinks_valid j (by omega)) A B c1 c2 (4 * j) (-1) 0 1 false w (by rw [hn]) hg.at (by unfold inR; simp; omega)
  rw [hn, hl] at h
  refine h.mono ?_
  rintro e w' ⟨_, h2, hb⟩
  obtain ⟨A', B', c1', c2', he, hd⟩ := h2 (by unfold curlableC fullC; rw [if_pos (by decide), if_neg (by omega), if_neg (by omega)])
  have hn1 : (crl (kinks j) (-1) 1 false).n = j + 1 := kinks_n (j + 1)
  have hl1 : (crl (kinks j) (-1) 1 false).lp = 64 - (j + 1) := kinks_lp (j + 1)
  rw [hn1, hl1] at he
  exact ⟨A', B', c1', c2', he, hd, hb⟩
/-- The three calls at the end. -/
theorem apE1 (N : Nat) (hN : 1 ≤ N ∧ N ≤ 64) (A B : Option Addr) (c1 c2 : Nat) (w : World) (hg : DgT w A B (kinks N)) :
    Calls Try.prog 22 #[.agg #[.slice A N c1, .slice B (4 * N) c2, .int .i64 ((64 - N : Nat) : Int)], .agg #[.int .i64 1, .int .i64 2, .int .i64 0, .int .i64 (-1), .bool false]] w
    fun e w' => ∃ (A B : Option Addr) (n m c1 c2 : Nat) (l k x y s : Int) (o : Bool), e = .returned (.tuple #[.agg #[.slice A n c1, .slice B m c2, .int .i64 l], .agg #[.int .i64 k, .int .i64 x, .int .i64 y, .int .i64 s, .bool o], .int .i64 (if 64 < N + 1 then 5 else 0)]) ∧ Below w.heap.size w w' := by
  have hn := kinks_n N
  have hl := kinks_lp N
  have h := apply_1 (kinks N) (kinks_valid N hN.2) A B c1 c2 (4 * N) 2 0 (-1) false w (by rw [hn]) hg.at (by unfold inR; simp [hn]; omega)
  rw [hn, hl] at h
  refine h.mono ?_
  intro e w' hr
  have := hr.any
  have hc : curlableC (kinks N) 2 = if 64 < N + 1 then 5 else 0 := by
    unfold curlableC fullC
    rw [if_neg (by decide), if_pos (by show Pl.out (kinks N) 2 = true; exact out_two rfl), hn]
  rwa [hc] at this
theorem apE2 (N : Nat) (hN : 2 ≤ N ∧ N ≤ 64) (A B : Option Addr) (c1 c2 : Nat) (w : World) (hg : DgT w A B (kinks N)) :
    Calls Try.prog 22 #[.agg #[.slice A N c1, .slice B (4 * N) c2, .int .i64 ((64 - N : Nat) : Int)], .agg #[.int .i64 3, .int .i64 2, .int .i64 6, .int .i64 0, .bool false]] w
    fun e w' => ∃ (A B : Option Addr) (n m c1 c2 : Nat) (l k x y s : Int) (o : Bool), e = .returned (.tuple #[.agg #[.slice A n c1, .slice B m c2, .int .i64 l], .agg #[.int .i64 k, .int .i64 x, .int .i64 y, .int .i64 s, .bool o], .int .i64 (if 64 < N + 2 then 5 else 0)]) ∧ Below w.heap.size w w' := by
  have hn := kinks_n N
  have hl := kinks_lp N
  have h := apply_3 (kinks N) (kinks_valid N hN.2) A B c1 c2 (4 * N) 2 6 0 false w (by rw [hn]) hg.at (by unfold inR; simp [hn]; omega)
  rw [hn, hl] at h
  refine h.mono ?_
  intro e w' hr
  have := hr.any
  have hc : pkQ (kinks N) 2 6 0 = if 64 < N + 2 then 5 else 0 := by
    obtain ⟨j, rfl⟩ : ∃ j, N = j + 1 := ⟨N - 1, by omega⟩
    unfold pkQ needP
    rw [if_neg (by simp), if_neg, hn]
    rw [Pl.vb_false]
    · decide
    · rintro ⟨_, _, _, h4⟩
      refine h4 ⟨.inr fun hc => ?_, ?_⟩
      · have := kinks_apart (by omega) hc
        omega
      · show (kinks (j + 1)).m 2 ≠ 6
        rw [(kinks_m j (by omega)).2.2.1]; decide
  rwa [hc] at this
theorem apE3 (N : Nat) (hN : 1 ≤ N ∧ N ≤ 64) (A B : Option Addr) (c1 c2 : Nat) (w : World) (hg : DgT w A B (kinks N)) :
    Calls Try.prog 22 #[.agg #[.slice A N c1, .slice B (4 * N) c2, .int .i64 64], .agg #[.int .i64 2, .int .i64 0, .int .i64 0, .int .i64 0, .bool false]] w
    fun e w' => ∃ (A B : Option Addr) (n m c1 c2 : Nat) (l k x y s : Int) (o : Bool), e = .returned (.tuple #[.agg #[.slice A n c1, .slice B m c2, .int .i64 l], .agg #[.int .i64 k, .int .i64 x, .int .i64 y, .int .i64 s, .bool o], .int .i64 5]) ∧ Below w.heap.size w w' := by
  have hn := kinks_n N
  have hv := kinks_valid N hN.2
  have hv' : Pl.Valid ⟨(kinks N).sg, (kinks N).mt, 64⟩ := ⟨⟨hv.wf.few, hv.wf.len, Nat.le_refl 64, hv.wf.sign, hv.wf.lt, hv.wf.ne, hv.wf.inv, hv.wf.way⟩, hv.flat⟩
  have hn' : (⟨(kinks N).sg, (kinks N).mt, 64⟩ : Pl.Dg).n = N := hn
  have h := apply_2 ⟨(kinks N).sg, (kinks N).mt, 64⟩ hv' A B c1 c2 (4 * N) 0 0 0 false w (by rw [hn']) ⟨hg.at.s, hg.at.m⟩ (by unfold inR; simp [hn']; omega)
  rw [hn'] at h
  refine h.mono ?_
  intro e w' hr
  have := hr.any
  have hc : uncC ⟨(kinks N).sg, (kinks N).mt, 64⟩ 0 = 5 := by
    obtain ⟨j, rfl⟩ : ∃ j, N = j + 1 := ⟨N - 1, by omega⟩
    obtain ⟨m0, m1, m2, m3⟩ := kinks_m j (by omega)
    have e0 : (⟨(kinks (j + 1)).sg, (kinks (j + 1)).mt, 64⟩ : Pl.Dg).m 0 = 1 := m0
    have e2 : (⟨(kinks (j + 1)).sg, (kinks (j + 1)).mt, 64⟩ : Pl.Dg).m 2 = 3 := m2
    have ek : kk (⟨(kinks (j + 1)).sg, (kinks (j + 1)).mt, 64⟩ : Pl.Dg) 0 = 2 := by
      unfold kk
      rw [if_pos (by show (⟨(kinks (j + 1)).sg, (kinks (j + 1)).mt, 64⟩ : Pl.Dg).m 2 / 4 = 0; rw [e2])]
    have ea : kA (⟨(kinks (j + 1)).sg, (kinks (j + 1)).mt, 64⟩ : Pl.Dg) 0 = 0 := by unfold kA; rw [ek]; rfl
    have eb : kB (⟨(kinks (j + 1)).sg, (kinks (j + 1)).mt, 64⟩ : Pl.Dg) 0 = 1 := by unfold kB; rw [ek, e2]; rfl
    unfold uncC
    rw [ek, e2, if_pos rfl, ea, eb, e0, if_pos rfl, if_pos (show 64 < 64 + 1 by omega)]
  rwa [hc] at this
set_option maxRecDepth 100000 in
set_option maxHeartbeats 4000000 in
theorem full_walk (a : Nat) (ha : a < 256) (w : World) : Calls Try.prog 7 #[.int .u8 (a : Int)] w fun e w' => e = .returned (.bool true) ∧ Below w.heap.size w w' := by
  obtain ⟨q, hq⟩ : ∃ q, q = a % 5 := ⟨_, rfl⟩
  have hq5 : q < 5 := by omega
  have HQ := hide hq
  have hqi : (a : Int) % 5 = (q : Int) := by omega
  clear hq
  go_enter Try.func7, Try.ntmps7
  go_wp2_with fail
  refine (awake_true w).mono ?_
  rintro e w1 ⟨rfl, hb1⟩
  have B1 := hide hb1
  clear hb1
  go_wp2
  have L0 := hide (show Row (w1.alloc (.cells #[.slice none 0 0, .slice none 0 0, .int .i64 64] 24)) w1.heap.size 24 [.slice none 0 0, .slice none (4 * 0) 0, .int .i64 ((64 - 0 : Nat) : Int)] from row_at (vs := [_, _, _]) rfl)
  obtain ⟨gd, hgd⟩ : ∃ gd, gd = w1.heap.size := ⟨_, rfl⟩
  have B2 := hide (B1.out.alloc B1.out.size (.cells #[.slice none 0 0, .slice none 0 0, .int .i64 64] 24))
  have hgdl : w.heap.size ≤ gd := by rw [hgd]; exact B1.out.size
  rw [← hgd] at L0 ⊢
  obtain ⟨V1, hV1⟩ : ∃ V1 : World, V1 = w1.alloc (.cells #[.slice none 0 0, .slice none 0 0, .int .i64 64] 24) := ⟨_, rfl⟩
  rw [← hV1] at L0 B2 ⊢
  clear hV1 hgd B1
  simp only [hqi]
  clear hqi
  have hqi2 : (q : Int) < 5 := by omega
  have hqi3 : (0 : Int) ≤ (q : Int) := by omega
  go_loopg [5, 6, 7, 25] (64 - q) (fun g s5 s6 s7 s25 wx => ∃ j : Nat, j + g = 64 - q ∧ s25 = .int .i64 (j : Int) ∧ ∃ (A B : Option Addr) (c1 c2 : Nat), Row wx gd 24 [.slice A j c1, .slice B (4 * j) c2, .int .i64 ((64 - j : Nat) : Int)] ∧ DgT wx A B (kinks j) ∧ Below w.heap.size w wx)
  case atStart => exact ⟨0, by omega, rfl, none, none, 0, 0, L0.out, ⟨⟨rfl, fun h => absurd h (by show ¬ 0 < 0; omega)⟩, ⟨rfl, fun h => absurd h (by show ¬ 0 < 4 * 0; omega)⟩⟩, B2.out⟩
  case round =>
    clear L0 B2
    obtain ⟨j, hjg, rfl, A, B, c1, c2, hr, hT, hb⟩ := hrel
    have HJG := hide hjg
    have R := hide hr
    have HT := hide hT
    have BJ := hide hb
    clear hr hT hb
    obtain ⟨d0, d1, d2, d3⟩ := box3 R.out
    by_cases hj : j + q < 64
    · have t1 : (j : Int) < 64 - (q : Int) := by omega
      clear hjg
      go_wp2_with fail
      refine (apK j (by omega) A B c1 c2 _ HT.out).mono ?_
      rintro e w3 ⟨A', B', c1', c2', rfl, hT3, hb3⟩
      have R3 := hide (R.out.below hb3)
      have HT3 := hide hT3
      have B3 := hide (BJ.out.trans (hb3.mono BJ.out.size))
      clear hT3 hb3 d0 d1 d2 d3
      obtain ⟨d0, d1, d2, d3⟩ := box3 R3.out
      have hgl := R3.out.lt
      obtain ⟨L9, hL9⟩ : ∃ L : Nat, L = 64 - (j + 1) := ⟨_, rfl⟩
      rw [← hL9]
      have HL9 := hide hL9
      clear hL9
      go_wp2
      go_roundg (gk - 1)
      case measure => have := HJG.out; omega
      case rel =>
        refine ⟨j + 1, by have := HJG.out; omega, by go_num, A', B', c1', c2', ?_, ?_, ?_⟩
        · rw [← HL9.out]
          exact ((((R3.out.set 0 (.slice A' (j + 1) c1')).set 1 (.slice B' (4 * (j + 1)) c2')).set 2 (.int .i64 (L9 : Int))).alloc _).alloc _
        · exact (((HT3.out.store R3.out (by decide) _).store (R3.out.set 0 _) (by decide) _).store ((R3.out.set 0 _).set 1 _) (by decide) _).keep (((Below.refl _ _).alloc (Nat.le_refl _) _).alloc (by simp) _)
        · exact (((B3.out.setCell hgdl _).setCell hgdl _).setCell hgdl _).alloc (((B3.out.setCell hgdl _).setCell hgdl _).setCell hgdl _).size _ |>.alloc ((((B3.out.setCell hgdl _).setCell hgdl _).setCell hgdl _).alloc (((B3.out.setCell hgdl _).setCell hgdl _).setCell hgdl _).size _).size _
    · have t1 : ¬ ((j : Int) < 64 - (q : Int)) := by omega
      have hjN : j = 64 - q := by omega
      clear hjg t1
      have t2 : (j : Int) = 64 - (q : Int) := by omega
      have t1 : ¬ ((j : Int) < 64 - (q : Int)) := by omega
      have HJN := hide hjN
      have hj1 : 2 ≤ j ∧ j ≤ 64 := by omega
      obtain ⟨hj2, hj3⟩ := hj1
      clear t2 hjN
      go_wp2_with fail
      refine (apE1 j (by omega) A B c1 c2 _ HT.out).mono ?_
      rintro e w3 ⟨A1, B1, n1, m1, k1, k2, l1, kk1, x1, y1, s1, o1, rfl, hb3⟩
      have R3 := hide (R.out.below hb3)
      have HT3 := hide (HT.out.keep hb3)
      have B3 := hide (BJ.out.trans (hb3.mono BJ.out.size))
      clear hb3 d0 d1 d2 d3
      obtain ⟨d0, d1, d2, d3⟩ := box3 R3.out
      have hgl := R3.out.lt
      obtain ⟨ca, hca⟩ : ∃ c : Int, c = if 64 < j + 1 then 5 else 0 := ⟨_, rfl⟩
      rw [← hca]
      have HCA := hide hca
      clear hca
      go_wp2_with fail
      have X3 := hide (show Below w3.heap.size w3 ((w3.alloc (.cells #[.slice A1 n1 k1, .slice B1 m1 k2, .int .i64 l1] 24)).alloc (.cells #[.int .i64 kk1, .int .i64 x1, .int .i64 y1, .int .i64 s1, .bool o1] 28)) from ((Below.refl _ _).alloc (Nat.le_refl _) _).alloc (by simp) _)
      refine (apE2 j (by omega) A B c1 c2 _ (HT3.out.keep X3.out)).mono ?_
      rintro e w4 ⟨A2, B2, n2, m2, k3, k4, l2, kk2, x2, y2, s2, o2, rfl, hb4⟩
      have hb4' := X3.out.trans (hb4.mono X3.out.size)
      have R4 := hide (R3.out.below hb4')
      have HT4 := hide (HT3.out.keep hb4')
      have B4 := hide (B3.out.trans (hb4'.mono B3.out.size))
      clear hb4 hb4' d0 d1 d2 d3 hgl X3 R3 HT3
      obtain ⟨d0, d1, d2, d3⟩ := box3 R4.out
      have hgl := R4.out.lt
      obtain ⟨cb, hcb⟩ : ∃ c : Int, c = if 64 < j + 2 then 5 else 0 := ⟨_, rfl⟩
      rw [← hcb]
      have HCB := hide hcb
      clear hcb
      go_wp2_with fail
      have B4s : Below w.heap.size w (w4.setCell ⟨gd, 2, none⟩ (.int .i64 64)) := B4.out.setCell hgdl _
      have B5 := hide ((B4s.alloc B4s.size (.cells #[.slice A2 n2 k3, .slice B2 m2 k4, .int .i64 l2] 24)).alloc (B4s.alloc B4s.size (.cells #[.slice A2 n2 k3, .slice B2 m2 k4, .int .i64 l2] 24)).size (.cells #[.int .i64 kk2, .int .i64 x2, .int .i64 y2, .int .i64 s2, .bool o2] 28))
      refine (apE3 j (by omega) A B c1 c2 _ ((HT4.out.store R4.out (by decide) _).keep (((Below.refl _ _).alloc (Nat.le_refl _) _).alloc (by simp) _))).mono ?_
      rintro e w5 ⟨A3, B3', n3, m3, k5, k6, l3, kk3, x3, y3, s3, o3, rfl, hb5⟩
      have B6 := hide (B5.out.trans (hb5.mono B5.out.size))
      clear hb5 d0 d1 d2 d3 hgl
      have hq' : q = 0 ∨ q = 1 ∨ q = 2 ∨ q = 3 ∨ q = 4 := by omega
      have B7 := hide (((B6.out.alloc B6.out.size (.cells #[.slice A3 n3 k5, .slice B3' m3 k6, .int .i64 l3] 24)).alloc (B6.out.alloc B6.out.size (.cells #[.slice A3 n3 k5, .slice B3' m3 k6, .int .i64 l3] 24)).size (.cells #[.int .i64 kk3, .int .i64 x3, .int .i64 y3, .int .i64 s3, .bool o3] 28)))
      rcases hq' with rfl | rfl | rfl | rfl | rfl
      · obtain rfl : ca = 5 := by rw [HCA.out, HJN.out]; decide
        obtain rfl : cb = 5 := by rw [HCB.out, HJN.out]; decide
        go_wp2
        go_ret
        exact ⟨rfl, B7.out⟩
      · obtain rfl : ca = 0 := by rw [HCA.out, HJN.out]; decide
        obtain rfl : cb = 5 := by rw [HCB.out, HJN.out]; decide
        go_wp2
        go_ret
        exact ⟨rfl, B7.out⟩
      · obtain rfl : ca = 0 := by rw [HCA.out, HJN.out]; decide
        obtain rfl : cb = 0 := by rw [HCB.out, HJN.out]; decide
        go_wp2
        go_ret
        exact ⟨rfl, B7.out⟩
      · obtain rfl : ca = 0 := by rw [HCA.out, HJN.out]; decide
        obtain rfl : cb = 0 := by rw [HCB.out, HJN.out]; decide
        go_wp2
        go_ret
        exact ⟨rfl, B7.out⟩
      · obtain rfl : ca = 0 := by rw [HCA.out, HJN.out]; decide
        obtain rfl : cb = 0 := by rw [HCB.out, HJN.out]; decide
        go_wp2
        go_ret
        exact ⟨rfl, B7.out⟩
end Go.Proofs.Ytobbepmlmbbamaa
end

section
/-
  The class of the worlds in which a call's box of a diagram is as it was.
-/
namespace Go.Proofs.Ytobbepmlmbbamaa
open Go Go.RowKit

/-- A world in which the box of a call is as it was. -/
def DC (w : World) (dv : List Value) (w' : World) : Prop := Row w' w.heap.size 24 dv ∧ Below w.heap.size w w'
theorem DC.below {w : World} {dv : List Value} {W W' : World} (h : DC w dv W) (hb : Below W.heap.size W W') : DC w dv W' := ⟨h.1.below hb, h.2.trans (hb.mono h.2.size)⟩
theorem DC.drew {w : World} {dv : List Value} {W : World} (h : DC w dv W) : DC w dv W.drew := ⟨h.1, h.2.drew⟩
theorem DC.alloc {w : World} {dv : List Value} {W : World} (h : DC w dv W) (o : Obj) : DC w dv (W.alloc o) := h.below ((Below.refl _ _).alloc (Nat.le_refl _) o)
theorem DC.all {w : World} {a b c : Value} {W : World} (h : DC w [a, b, c] W) : W.cell? ⟨w.heap.size, 0, none⟩ = some a ∧ W.cell? ⟨w.heap.size, 1, none⟩ = some b ∧ W.cell? ⟨w.heap.size, 2, none⟩ = some c ∧ DC w [a, b, c] W :=
  ⟨h.1.cell (i := 0) (by simp), h.1.cell (i := 1) (by simp), h.1.cell (i := 2) (by simp), h⟩
theorem DC.start (w : World) (a b c : Value) : DC w [a, b, c] (w.alloc (.cells #[a, b, c] 24)) :=
  ⟨row_at (vs := [a, b, c]) rfl, (Below.refl _ _).alloc (Nat.le_refl _) _⟩
end Go.Proofs.Ytobbepmlmbbamaa
end
