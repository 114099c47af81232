/-
  Walks: kept (the moves after which a diagram keeps to a limit), Contains of a move.
-/
import Derived.Test.YtobbepmlmbbamaaYg
import Derived.Test.YtobbepmlmbbamaaXsg
set_option linter.unusedVariables false
set_option linter.unusedSimpArgs false
namespace Go.Proofs.Ytobbepmlmbbamaa
open Go Go.RowKit
attribute [local go_sem ↓] Go.wp_at_zero Go.wp_at_succ

theorem gro_more (m : Mv) : moreK m = gro m.kind := rfl
theorem ap_n {d : Pl.Dg} (hd : Pl.Valid d) {z : Mv} (h : apC d z = 0) : ((apD d z).n : Int) = d.n + gro z.kind := (signs_law hd z h).2.1
/-- A growing list of moves of the call's own. -/
structure KL (w : World) (v : Value) (ms : List Mv) (W : World) : Prop where
  o : W.ownsRow w.heap.size 28 5 v ms.length (mvs ms)
  bel : Below w.heap.size w W
section
variable {w W W' W2 : World} {v v' : Value} {ms : List Mv} {m : Mv}
theorem KL.below (h : KL w v ms W) (hb : Below W.heap.size W W') : KL w v ms W' := ⟨own_below h.o hb, h.bel.trans (hb.mono h.bel.size)⟩
theorem KL.alloc (h : KL w v ms W) (o : Obj) : KL w v ms (W.alloc o) := h.below ((Below.refl _ _).alloc (Nat.le_refl _) o)
theorem KL.push (h : KL w v ms W) (own : W2.ownsRow w.heap.size 28 5 v' (ms.length + 1) (mvs ms ++ m.cells)) (gr : W.grownBy W2 v.ownBlock) : KL w v' (ms ++ [m]) W2 :=
  ⟨by rw [mvs_app, List.length_append]; exact own, h.bel.grown gr h.bel.size (fun k hk => (h.o.lt k hk).1)⟩
end
theorem keepM_len (n : Nat) (most : Int) (l : List Mv) (q : Nat) : (keepM n most (l.take q)).length ≤ l.length := filt_len (fun z => !dels n most z) q
set_option maxRecDepth 100000 in
set_option maxHeartbeats 8000000 in
theorem kept_any (d : Pl.Dg) (hd : Pl.Valid d) (A B : Option Addr) (cp cq m : Nat) (most : Int) (w : World) (hm : m = 4 * d.n) (hg : DgAt w A B d) :
    Calls Try.prog 36 #[.agg #[.slice A d.n cp, .slice B m cq, .int .i64 d.lp], .int .i64 most] w fun e w' => ∃ v, e = .returned v ∧ MovesIn w.heap.size w' v (chL d most) ∧ Below w.heap.size w w' := by
  have HM := hide hm
  have HG := hide hg
  have hn := hd.wf.few
  clear hm hg
  have R0 := hide (row_at (W := w) (g := w.heap.size) (t := 24) (vs := [.slice A d.n cp, .slice B m cq, .int .i64 (d.lp : Int)]) rfl)
  have B0 := hide (show Below w.heap.size w (w.alloc (.cells #[.slice A d.n cp, .slice B m cq, .int .i64 (d.lp : Int)] 24)) from (Below.refl _ _).alloc (Nat.le_refl _) _)
  go_enter Try.func36, Try.ntmps36
  go_wp2_with fail
  refine (All_any d hd A B cp cq m _ HM.out (HG.out.keep B0.out)).mono ?_
  rintro e w0 ⟨v, rfl, hv, hb0⟩
  have R1 := hide (R0.out.below hb0)
  have B1 := hide (B0.out.trans (hb0.mono B0.out.size))
  obtain ⟨A5, c5, rfl, hV⟩ := hv.at.mv
  obtain ⟨N5, hN5⟩ : ∃ n, n = (allL d).length := ⟨_, rfl⟩
  have hlen := allL_le (d := d) hn
  have hlenL := allL_le (d := d) hn
  rw [← hN5] at hV hlen ⊢
  have HN5 := hide hN5
  have HV := hide hV
  clear hV hv hN5 hb0 R0 B0
  go_wp2
  go_loopg [5, 7, 8, 9, 10, 14] N5 (fun g s5 s7 s8 s9 s10 s14 wx => ∃ (q : Nat) (vK : Value), q + g = N5 ∧ s14 = .int .i64 (q : Int) ∧ vK = s5 ∧ KL w0 vK (keepM d.n most ((allL d).take q)) wx)
  case atStart => exact ⟨0, .slice none 0 0, by omega, rfl, rfl, ⟨⟨by simp [mvs, keepM], .inl ⟨rfl, rfl⟩⟩, Below.refl _ _⟩⟩
  case round =>
    obtain ⟨q, vK, hkg, rfl, rfl, hl⟩ := hrel
    have K0 := hide hl
    have HKG := hide hkg
    have hkl := keepM_len d.n most (allL d) q
    clear hl
    by_cases hq : q < N5
    · have hqi : (q : Int) < (N5 : Int) := by omega
      have q0 : (0 : Int) ≤ (q : Int) := by omega
      obtain ⟨g5, zk, zx, zy, zs, zo, rfl, hgl, hz, c0, c1, c2, c3, c4⟩ := (HV.out.keep K0.out.bel).at_ hq
      have HZ := hide hz
      have HIN := hide (listed_ok (List.mem_of_getElem? hz))
      have KS := hide (keepM_s (n := d.n) (most := most) hz)
      have b2 := (Below.refl wr.heap.size wr).alloc (Nat.le_refl _) (.cells #[.int .i64 zk, .int .i64 zx, .int .i64 zy, .int .i64 zs, .bool zo] 28)
      have K2 := hide (K0.out.below b2)
      have R2 := hide ((R1.out.below K0.out.bel).below b2)
      have BB2 := hide (B1.out.trans ((K0.out.bel.mono B1.out.size)))
      have B2 := hide (BB2.out.trans (b2.mono BB2.out.size))
      have M2 := hide (row_at (W := wr) (g := wr.heap.size) (t := 28) (vs := [.int .i64 zk, .int .i64 zx, .int .i64 zy, .int .i64 zs, .bool zo]) rfl)
      have hw2 : w.heap.size < wr.heap.size := (R1.out.below K0.out.bel).lt
      obtain ⟨d0, d1, d2, d3⟩ := box3 (R1.out.below K0.out.bel)
      clear hz hkg b2 K0 BB2
      go_wp2_with fail
      refine (apply_any d hd A B cp cq m ⟨zk, zx, zy, zs, zo⟩ _ HM.out (HG.out.keep B2.out)).mono ?_
      intro e w3 hres
      obtain ⟨A9, B9, c8, c9, k9, x9, y9, s9, o9, hmv, rfl, hT⟩ := (hres.2.1 HIN.out).split
      have en := ap_n hd HIN.out
      have K3 := hide (K2.out.below hres.2.2)
      have M3 := hide (M2.out.below hres.2.2)
      have R3 := hide (R2.out.below hres.2.2)
      obtain ⟨N9, hN9⟩ : ∃ n, n = (apD d ⟨zk, zx, zy, zs, zo⟩).n := ⟨_, rfl⟩
      obtain ⟨N4, hN4⟩ : ∃ n, n = 4 * (apD d ⟨zk, zx, zy, zs, zo⟩).n := ⟨_, rfl⟩
      obtain ⟨L9, hL9⟩ : ∃ n, n = (apD d ⟨zk, zx, zy, zs, zo⟩).lp := ⟨_, rfl⟩
      rw [← hN4, ← hN9, ← hL9]
      rw [← hN9] at en
      have HDEL := hide (show dels d.n most ⟨zk, zx, zy, zs, zo⟩ = decide (most < (N9 : Int)) by unfold dels; rw [en])
      have hw3 : wr.heap.size < w3.heap.size := M3.out.lt
      have hw30 : w.heap.size < w3.heap.size := by omega
      clear hmv hT hres hN9 hN4 hL9 en d0 d1 d2 d3 c0 c1 c2 c3 c4
      obtain ⟨m0, m1, m2, m3, m4, m5⟩ := box5 M3.out
      by_cases hle : (N9 : Int) ≤ most
      · have KK := hide (show keepM d.n most ((allL d).take (q + 1)) = keepM d.n most ((allL d).take q) ++ [⟨zk, zx, zy, zs, zo⟩] by rw [KS.out, HDEL.out, decide_eq_false (show ¬ most < (N9 : Int) by omega)]; rfl)
        obtain ⟨n0, hn0, hz0, hz1, hz2⟩ := info_parts moveInfo
        have K4 := hide ((K3.out.alloc (.cells #[.slice A9 N9 c8, .slice B9 N4 c9, .int .i64 (L9 : Int)] 24)).alloc (.cells #[.int .i64 k9, .int .i64 x9, .int .i64 y9, .int .i64 s9, .bool o9] 28))
        have A0 := hide (K4.out.alloc (.cells (Mv.cells ⟨zk, zx, zy, zs, zo⟩).toArray 28)).o
        have A1 : ∀ u ∈ Mv.cells ⟨zk, zx, zy, zs, zo⟩, u.oneCell' = true := by simp [Mv.cells, Value.oneCell']
        have A2 : (keepM d.n most ((allL d).take q)).length + 1 ≤ maxLen := by unfold maxLen; omega
        have A3 : ((keepM d.n most ((allL d).take q)).length + 1) * 40 ≤ 140737488355328 := by omega
        have A4 : w0.heap.size ≤ (((w3.alloc (.cells #[.slice A9 N9 c8, .slice B9 N4 c9, .int .i64 (L9 : Int)] 24)).alloc (.cells #[.int .i64 k9, .int .i64 x9, .int .i64 y9, .int .i64 s9, .bool o9] 28)).alloc (.cells (Mv.cells ⟨zk, zx, zy, zs, zo⟩).toArray 28)).heap.size := (K4.out.alloc _).bel.size
        have A6 := hide (five_news ((w3.alloc (.cells #[.slice A9 N9 c8, .slice B9 N4 c9, .int .i64 (L9 : Int)] 24)).alloc (.cells #[.int .i64 k9, .int .i64 x9, .int .i64 y9, .int .i64 s9, .bool o9] 28)) (w3.heap.size + 1 + 1) (by simp) ⟨zk, zx, zy, zs, zo⟩)
        go_wp2_with (at_builtin; refine wpList_append_lies _ (by rfl) _ _ 31 (by rfl) w0.heap.size 28 n0 (.agg #[.int .i64 0, .int .i64 0, .int .i64 0, .int .i64 0, .bool false]) 5 40 Try.underlying31 hn0 hz0 hz1 hz2 rfl (by omega) vK (keepM d.n most ((allL d).take q)).length (mvs (keepM d.n most ((allL d).take q))) (by rfl) A0.out ⟨w3.heap.size + 1 + 1, 0, none⟩ 1 1 (Mv.cells ⟨zk, zx, zy, zs, zo⟩) (by rfl) (by rfl) A6.out A1 (by omega) A2 A3 A4 (w3.heap.size + 1 + 1 + 1) (by simp) ?_; intro g2 c2 w5 own2 grow2 at2 lt2; have K5 := hide ((K4.out.alloc (.cells (Mv.cells ⟨zk, zx, zy, zs, zo⟩).toArray 28)).push (m := ⟨zk, zx, zy, zs, zo⟩) own2 grow2); clear own2 grow2 at2)
        go_roundg (gk - 1)
        case measure => have := HKG.out; omega
        case rel => exact ⟨q + 1, _, by have := HKG.out; omega, by go_num, rfl, by rw [KK.out]; exact K5.out⟩
      · have KK := hide (show keepM d.n most ((allL d).take (q + 1)) = keepM d.n most ((allL d).take q) by rw [KS.out, HDEL.out, decide_eq_true (show most < (N9 : Int) by omega)]; simp)
        go_wp2
        go_roundg (gk - 1)
        case measure => have := HKG.out; omega
        case rel => exact ⟨q + 1, vK, by have := HKG.out; omega, by go_num, rfl, by rw [KK.out]; exact (K3.out.alloc _).alloc _⟩
    · have hqi : ¬ ((q : Int) < (N5 : Int)) := by omega
      have EQ := hide (show keepM d.n most ((allL d).take q) = chL d most by
        have e : q = (allL d).length := by rw [← HN5.out]; omega
        rw [e, List.take_length]
        rfl)
      clear hkg
      go_wp2
      go_ret
      exact ⟨_, rfl, ⟨w0.heap.size, B1.out.size, K0.out.bel.size, by rw [← EQ.out]; exact K0.out.o⟩, B1.out.trans (K0.out.bel.mono B1.out.size)⟩
/-- The first place of a move in a list. -/
def IxPost (L : List Mv) (z : Mv) (w : World) (e : Ending) (w' : World) : Prop := (z ∈ L → ∃ i : Nat, e = .returned (.int .i64 (i : Int))) ∧ Below w.heap.size w w'
set_option maxRecDepth 100000 in
set_option maxHeartbeats 8000000 in
theorem index_in (L : List Mv) (A : Option Addr) (N c : Nat) (k x y s : Int) (o : Bool) (w : World) (hA : MovesV w A N L) (hN : N ≤ 1000000) (hin : (⟨k, x, y, s, o⟩ : Mv) ∈ L) :
    Calls Try.prog 71 #[.slice A N c, .agg #[.int .i64 k, .int .i64 x, .int .i64 y, .int .i64 s, .bool o]] w (IxPost L ⟨k, x, y, s, o⟩ w) := by
  have HA := hide hA
  have HIN := hide hin
  have M0 := hide (row_at (W := w) (g := w.heap.size) (t := 28) (vs := [.int .i64 k, .int .i64 x, .int .i64 y, .int .i64 s, .bool o]) rfl)
  have B0 := hide (show Below w.heap.size w (w.alloc (.cells #[.int .i64 k, .int .i64 x, .int .i64 y, .int .i64 s, .bool o] 28)) from (Below.refl _ _).alloc (Nat.le_refl _) _)
  clear hA hin
  go_enter Try.func71, Try.ntmps71
  go_wp2
  go_loopg [5, 8] N (fun g s5 s8 wx => ∃ q : Nat, q + g = N ∧ s8 = .int .i64 (q : Int) ∧ (∀ (j : Nat), j < q → L[j]? ≠ some ⟨k, x, y, s, o⟩) ∧ Row wx w.heap.size 28 [.int .i64 k, .int .i64 x, .int .i64 y, .int .i64 s, .bool o] ∧ Below w.heap.size w wx)
  case atStart => exact ⟨0, by omega, rfl, (fun j h => absurd h (by omega)), M0.out, B0.out⟩
  case round =>
    obtain ⟨q, hkg, rfl, hno, hr, hb⟩ := hrel
    have HNO := hide hno
    have HB := hide hb
    have HR := hide hr
    have HKG := hide hkg
    clear hno hb hr M0 B0
    by_cases hq : q < N
    · have hqi : (q : Int) < (N : Int) := by omega
      have q0 : (0 : Int) ≤ (q : Int) := by omega
      obtain ⟨g5, zk, zx, zy, zs, zo, rfl, hgl, hz, c0, c1, c2, c3, c4⟩ := (HA.out.keep HB.out).at_ hq
      have HZ := hide hz
      obtain ⟨m0, m1, m2, m3, m4, m5⟩ := box5 HR.out
      clear hz hkg
      by_cases heq : (⟨zk, zx, zy, zs, zo⟩ : Mv) = ⟨k, x, y, s, o⟩
      · injection heq with e1 e2 e3 e4 e5
        subst e1 e2 e3 e4 e5
        go_upto_region 4 with fail
        go_quiet (fail)
        go_wp2
        go_ret
        exact ⟨fun _ => ⟨q, rfl⟩, below_drewN HB.out _⟩
      · go_upto_region 4 with fail
        go_cut [16] (fun s16 wx => s16 = .bool false ∧ ∃ n, wx = wr.drewN n)
        case first =>
          by_cases e1 : k = zk
          · subst e1
            by_cases e2 : x = zx
            · subst e2
              by_cases e3 : y = zy
              · subst e3
                by_cases e4 : s = zs
                · subst e4
                  by_cases e5 : o = zo
                  · subst e5
                    exact absurd rfl heq
                  · go_quiet (fail)
                    go_wp2_with fail
                    go_meet
                    exact ⟨rfl, _, rfl⟩
                · go_quiet (fail)
                  go_wp2_with fail
                  go_meet
                  exact ⟨rfl, _, rfl⟩
              · go_quiet (fail)
                go_wp2_with fail
                go_meet
                exact ⟨rfl, _, rfl⟩
            · go_quiet (fail)
              go_wp2_with fail
              go_meet
              exact ⟨rfl, _, rfl⟩
          · go_quiet (fail)
            go_wp2_with fail
            go_meet
            exact ⟨rfl, _, rfl⟩
        case rest =>
          obtain ⟨rfl, nn, rfl⟩ := hcut
          go_wp2
          go_roundg (gk - 1)
          case measure => have := HKG.out; omega
          case rel =>
            refine ⟨q + 1, by have := HKG.out; omega, by go_num, fun j hj => ?_, Row_drewN HR.out _, below_drewN HB.out _⟩
            rcases Nat.lt_succ_iff_lt_or_eq.1 hj with h | rfl
            · exact HNO.out j h
            · rw [HZ.out]
              exact fun h => heq (Option.some.inj h)
    · have hqi : ¬ ((q : Int) < (N : Int)) := by omega
      exfalso
      obtain ⟨j, hj, e⟩ := List.getElem_of_mem HIN.out
      exact HNO.out j (by have := HA.out.1; omega) (by rw [List.getElem?_eq_getElem hj, e])
set_option maxRecDepth 100000 in
set_option maxHeartbeats 4000000 in
theorem contains_in (L : List Mv) (A : Option Addr) (N c : Nat) (k x y s : Int) (o : Bool) (w : World) (hA : MovesV w A N L) (hN : N ≤ 1000000) (hin : (⟨k, x, y, s, o⟩ : Mv) ∈ L) :
    Calls Try.prog 37 #[.slice A N c, .agg #[.int .i64 k, .int .i64 x, .int .i64 y, .int .i64 s, .bool o]] w fun e w' => e = .returned (.bool true) ∧ Below w.heap.size w w' := by
  have HA := hide hA
  have B0 := hide (show Below w.heap.size w (w.alloc (.cells #[.int .i64 k, .int .i64 x, .int .i64 y, .int .i64 s, .bool o] 28)) from (Below.refl _ _).alloc (Nat.le_refl _) _)
  clear hA
  go_enter Try.func37, Try.ntmps37
  go_wp2_with fail
  refine (index_in L A N c k x y s o _ (HA.out.keep B0.out) hN hin).mono ?_
  rintro e w1 ⟨h1, hb1⟩
  obtain ⟨i, rfl⟩ := h1 hin
  have hi : (0 : Int) ≤ (i : Int) := by omega
  have B1 := hide (B0.out.trans (hb1.mono B0.out.size))
  clear h1 hb1
  go_wp2
  go_ret
  exact ⟨rfl, B1.out⟩
end Go.Proofs.Ytobbepmlmbbamaa
