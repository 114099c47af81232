/-
  Walks: same (two equal lists of moves); the equality of two moves.
-/
import Derived.Test.YtobbepmlmbbamaaXv
set_option linter.unusedVariables false
set_option linter.unusedSimpArgs false
namespace Go.Proofs.Ytobbepmlmbbamaa
open Go Go.RowKit
attribute [local go_sem ↓] Go.wp_at_zero Go.wp_at_succ

theorem mv_get : ∀ (ms : List Mv) (j : Nat) (z : Mv), ms[j]? = some z → ∀ (i : Nat) (u : Value), z.cells[i]? = some u → (mvs ms)[j * 5 + i]? = some u
  | [], j, z, h, _, _, _ => by cases h
  | m :: ms, 0, z, h, i, u, hu => by
    obtain rfl : m = z := by simpa using h
    have hi : i < m.cells.length := (List.getElem?_eq_some_iff.1 hu).1
    show (m.cells ++ mvs ms)[0 * 5 + i]? = some u
    rw [Nat.zero_mul, Nat.zero_add, List.getElem?_append_left hi, hu]
  | m :: ms, j + 1, z, h, i, u, hu => by
    have ih := mv_get ms j z (by simpa using h) i u hu
    show (m.cells ++ mvs ms)[(j + 1) * 5 + i]? = some u
    have e : m.cells.length = 5 := rfl
    rw [List.getElem?_append_right (by rw [e]; omega), e, ← ih]
    congr 1
    omega
theorem mv_val {w : World} {v : Value} {ms : List Mv} (h : MovesAt w v ms) : ∃ (A : Option Addr) (c : Nat), v = .slice A ms.length c ∧ (0 < ms.length → ∃ g, A = some ⟨g, 0, none⟩ ∧ g < w.heap.size ∧ ∀ (j : Nat) (z : Mv), ms[j]? = some z → ∀ (i : Nat) (u : Value), z.cells[i]? = some u → w.cell? ⟨g, j * 5 + i, none⟩ = some u) := by
  obtain ⟨base, h⟩ := h
  obtain ⟨A, c, rfl⟩ := owns_slice h
  refine ⟨A, c, rfl, fun hp => ?_⟩
  obtain ⟨g, cap, e, _, hg⟩ := World.ownsRow.form h hp
  injection e with e1 _ _
  subst e1
  refine ⟨g, rfl, hg, fun j z hz i u hu => ?_⟩
  have hj : j < ms.length := (List.getElem?_eq_some_iff.1 hz).1
  have hi : i < 5 := (List.getElem?_eq_some_iff.1 hu).1
  rw [World.ownsRow.cellAt h (j * 5 + i) (by omega)]
  exact mv_get ms j z hz i u hu
/-- A slice of moves, by its cells. -/
def MovesV (w : World) (A : Option Addr) (n : Nat) (ms : List Mv) : Prop := n = ms.length ∧ (0 < n → ∃ g, A = some ⟨g, 0, none⟩ ∧ g < w.heap.size ∧ ∀ (j : Nat) (z : Mv), ms[j]? = some z → ∀ (i : Nat) (u : Value), z.cells[i]? = some u → w.cell? ⟨g, j * 5 + i, none⟩ = some u)
theorem MovesV.keep {w w' : World} {A : Option Addr} {n : Nat} {ms : List Mv} (h : MovesV w A n ms) (hb : Below w.heap.size w w') : MovesV w' A n ms :=
  ⟨h.1, fun hp => let ⟨g, e, hl, hc⟩ := h.2 hp; ⟨g, e, Nat.lt_of_lt_of_le hl hb.size, fun j z hz i u hu => cell_below (hc j z hz i u hu) hb⟩⟩
theorem MovesAt.mv {w : World} {v : Value} {ms : List Mv} (h : MovesAt w v ms) : ∃ (A : Option Addr) (c : Nat), v = .slice A ms.length c ∧ MovesV w A ms.length ms := by
  obtain ⟨A, c, e, h2⟩ := mv_val h
  exact ⟨A, c, e, rfl, h2⟩
theorem MovesV.nil (w : World) (A : Option Addr) : MovesV w A 0 [] := ⟨rfl, fun h => absurd h (by omega)⟩
theorem MovesV.at_ {w : World} {A : Option Addr} {n j : Nat} {ms : List Mv} (h : MovesV w A n ms) (hj : j < n) : ∃ g k x y s o, A = some ⟨g, 0, none⟩ ∧ g < w.heap.size ∧ ms[j]? = some ⟨k, x, y, s, o⟩ ∧ w.cell? ⟨g, j * 5, none⟩ = some (.int .i64 k) ∧ w.cell? ⟨g, j * 5 + 1, none⟩ = some (.int .i64 x) ∧ w.cell? ⟨g, j * 5 + 2, none⟩ = some (.int .i64 y) ∧ w.cell? ⟨g, j * 5 + 3, none⟩ = some (.int .i64 s) ∧ w.cell? ⟨g, j * 5 + 4, none⟩ = some (.bool o) := by
  obtain ⟨g, e, hl, hc⟩ := h.2 (by omega)
  obtain ⟨z, hz⟩ : ∃ z, ms[j]? = some z := ⟨_, List.getElem?_eq_getElem (by rw [← h.1]; exact hj)⟩
  obtain ⟨k, x, y, s, o⟩ := z
  exact ⟨g, k, x, y, s, o, e, hl, hz, hc j _ hz 0 _ rfl, hc j _ hz 1 _ rfl, hc j _ hz 2 _ rfl, hc j _ hz 3 _ rfl, hc j _ hz 4 _ rfl⟩
set_option maxRecDepth 100000 in
set_option maxHeartbeats 4000000 in
theorem same_moves (ms : List Mv) (A B : Option Addr) (n c c2 : Nat) (w : World) (hA : MovesV w A n ms) (hB : MovesV w B n ms) (hn : n ≤ 1000000) :
    Calls Try.prog 32 #[.slice A n c, .slice B n c2] w fun e w' => e = .returned (.bool true) ∧ Below w.heap.size w w' := by
  have HA := hide hA
  have HB := hide hB
  clear hA hB
  go_enter Try.func32, Try.ntmps32
  go_wp2
  go_loopg [5] n (fun g i wx => ∃ k : Nat, k + g = n ∧ i = .int .i64 k ∧ Below w.heap.size w wx)
  case atStart => exact ⟨0, by omega, rfl, Below.refl _ _⟩
  case round =>
    obtain ⟨q, hkg, rfl, hb⟩ := hrel
    have HBW := hide hb
    have HKG := hide hkg
    clear hb
    by_cases hk : q < n
    · have hki : (q : Int) < (n : Int) := by omega
      have k0 : (0 : Int) ≤ (q : Int) := by omega
      obtain ⟨ga, k, x, y, s, o, rfl, _, hz, a0, a1, a2, a3, a4⟩ := (HA.out.keep HBW.out).at_ hk
      obtain ⟨gb, k', x', y', s', o', rfl, _, hz', b0, b1, b2, b3, b4⟩ := (HB.out.keep HBW.out).at_ hk
      rw [hz] at hz'
      obtain ⟨rfl, rfl, rfl, rfl, rfl⟩ : k = k' ∧ x = x' ∧ y = y' ∧ s = s' ∧ o = o' := by simpa using hz'
      clear hz hz' hkg
      go_upto_region 6 with fail
      go_quiet (fail)
      go_wp2
      go_roundg (gk - 1)
      case measure => have := HKG.out; omega
      case rel => exact ⟨q + 1, by have := HKG.out; omega, by go_num, below_drewN HBW.out _⟩
    · have hki : ¬ ((q : Int) < (n : Int)) := by omega
      clear hkg
      go_wp2
      go_ret
      exact ⟨rfl, HBW.out⟩
/-- Are two moves equal? -/
def eqM (a b : Mv) : Bool := a.kind == b.kind && a.x == b.x && a.y == b.y && a.sign == b.sign && a.over == b.over
theorem eqM_iff {a b : Mv} : eqM a b = true ↔ a = b := by
  obtain ⟨k, x, y, s, o⟩ := a
  obtain ⟨k', x', y', s', o'⟩ := b
  unfold eqM
  simp only [Bool.and_eq_true, beq_iff_eq, Mv.mk.injEq]
  constructor
  · rintro ⟨⟨⟨⟨h1, h2⟩, h3⟩, h4⟩, h5⟩; exact ⟨h1, h2, h3, h4, h5⟩
  · rintro ⟨h1, h2, h3, h4, h5⟩; exact ⟨⟨⟨⟨h1, h2⟩, h3⟩, h4⟩, h5⟩
set_option maxRecDepth 100000 in
set_option maxHeartbeats 4000000 in
theorem Removing_any (d : Pl.Dg) (hd : Pl.Valid d) (A B : Option Addr) (cp cq m : Nat) (w : World) (hm : m = 4 * d.n) (hg : DgAt w A B d) :
    Calls Try.prog 31 #[.agg #[.slice A d.n cp, .slice B m cq, .int .i64 d.lp]] w fun e w' => ∃ v, e = .returned v ∧ MovesIn w.heap.size w' v (remL d) ∧ Below w.heap.size w w' := by
  have HM := hide hm
  have HG := hide hg
  have HW := hide (Pl.Valid.iff.1 hd).1
  have hn := hd.wf.few
  clear hg hm
  have R0 := hide (row_at (W := w) (g := w.heap.size) (t := 24) (vs := [.slice A d.n cp, .slice B m cq, .int .i64 (d.lp : Int)]) rfl)
  have B0 := hide (show Below w.heap.size w (w.alloc (.cells #[.slice A d.n cp, .slice B m cq, .int .i64 (d.lp : Int)] 24)) from (Below.refl _ _).alloc (Nat.le_refl _) _)
  go_enter Try.func31, Try.ntmps31
  go_wp2_with fail
  refine (valid_yes d hd A B cp cq m _ HM.out (HG.out.keep B0.out)).mono ?_
  rintro e w1 ⟨rfl, hb1⟩
  have R1 := hide (R0.out.below hb1)
  have B1 := hide (B0.out.trans (hb1.mono B0.out.size))
  clear hb1
  obtain ⟨d0, d1, d2, d3⟩ := box3 R1.out
  go_wp2_with fail
  have lun := un_le (d := d) hn
  have lup := up_le (d := d) hn
  have B3 : (sel d (unC d.n)).length + (sel d (upNX d.n d.n)).length ≤ maxLen := by unfold maxLen; omega
  have C3 : ((sel d (unC d.n)).length + (sel d (upNX d.n d.n)).length) * 40 ≤ 140737488355328 := by omega
  obtain ⟨n0, hn0, hz0, hz1, hz2⟩ := info_parts moveInfo
  have hw1 : w.heap.size < w1.heap.size := R1.out.lt
  have HG1 := hide (show DgAt w1.drew A B d from ⟨(HG.out.keep B1.out).s, (HG.out.keep B1.out).m⟩)
  go_region_law
    (first
      | (refine step_append_src _ ?_ (.tmp 7) (.tmp 9) 31 ?_ b 28 n0 (.agg #[.int .i64 0, .int .i64 0, .int .i64 0, .int .i64 0, .bool false]) 40 Try.underlying31 hn0 hz0 hz1 hz2 rfl v3 _ _ ?_ Q4.out.o A4 _ c4 _ ?_ S4.out B3 C3 Q4.out.lo2 ?_
         · rfl
         · rfl
         · rfl
         · rfl
         intro v5 w5 own5 grow5
         have Q5 := hide (Q4.out.app own5 grow5)
         clear own5 grow5)
      | (go_simp
         go_wp2_with (first
           | ((go_at_call 66); refine Calls.mono (uncurls_any d HW.out A B cp cq m _ HM.out HG1.out) ?_; rintro e w3 ⟨v3, rfl, ⟨b, hlb, hlb2, own3⟩, hb3⟩; rw [un_sel d _ (Nat.le_refl _)] at own3; have Q3 := hide (show AL w [.slice A d.n cp, .slice B m cq, .int .i64 (d.lp : Int)] b v3 (sel d (unC d.n)) w3 from ⟨R1.out.drew.below hb3, own3, B1.out.drew.trans (hb3.mono B1.out.size), Nat.lt_of_lt_of_le hw1 hlb, hlb2⟩); obtain ⟨e0, e1, e2, e3⟩ := box3 Q3.out.d; clear own3 hb3)
           | ((go_at_call 68); refine Calls.mono (unpokes_any d HW.out A B cp cq m _ HM.out (HG.out.keep Q3.out.bel)) ?_; rintro e w4 ⟨v4, rfl, hv4, hb4⟩; rw [up_sel] at hv4; obtain ⟨A4, c4, rfl, src4⟩ := hv4.at.src; have Q4 := hide (Q3.out.below hb4); have S4 := hide src4; clear hb4 hv4 src4))))
  all_goals
    go_wp2
    go_ret
    exact ⟨v5, rfl, ⟨b, by have := Q5.out.lo; omega, Q5.out.lo2, Q5.out.o⟩, Q5.out.bel⟩
end Go.Proofs.Ytobbepmlmbbamaa
