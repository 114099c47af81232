/-
  Walks: slices.Concat of two slices; join, shifted, place.
-/
import Derived.Test.YtobbepmlmbbamaaWa
import Derived.Test.YtobbepmlmbbamaaGrow
import Derived.Deep.LoopGhost
namespace Go.Proofs.Ytobbepmlmbbamaa
open Go.RowKit

def pre (xs ys : List Int) (k : Nat) : List Int := if k = 0 then [] else if k = 1 then xs else xs ++ ys
set_option maxRecDepth 100000 in
set_option maxHeartbeats 2000000 in
/-- Two slices, one after the other, in memory of the call's own. -/
theorem concat_two (A B : Option Addr) (n m c d h : Nat) (xs ys : List Int) (w : World) (hx : IntsAt w A n xs) (hy : IntsAt w B m ys) (hn : n + m ≤ 100000)
    (c0 : w.cell? ⟨h, 0, none⟩ = some (.slice A n c)) (c1 : w.cell? ⟨h, 1, none⟩ = some (.slice B m d)) :
    Calls Try.prog 120 #[.slice (some ⟨h, 0, none⟩) 2 2] w fun e w' => ∃ v, e = .returned v ∧ w'.ownsRow w.heap.size 3 1 v (n + m) ((xs ++ ys).map (.int .i64)) ∧ Below w.heap.size w w' := by
  have HX := hide hx
  have HY := hide hy
  clear hx hy
  go_enter Try.func120, Try.ntmps120
  go_wp2
  go_loop [3, 11] (fun s i => ∃ k : Nat, k ≤ 2 ∧ i = .int .i64 k ∧ s = .int .i64 ((if k = 0 then 0 else if k = 1 then n else n + m : Nat) : Int)) (fun _ i => 2 - (intOf i).toNat)
  case atStart => exact ⟨0, by omega, rfl, rfl⟩
  case round =>
    obtain ⟨k, hk, rfl, rfl⟩ := hrel
    have h3 : k = 0 ∨ k = 1 ∨ k = 2 := by omega
    rcases h3 with rfl | rfl | rfl
    · simp only [if_true]
      go_wp2
      go_round
      case rel => exact ⟨1, by omega, by go_num, by simp⟩
      case measure => simp [intOf]
    · simp only [Nat.one_ne_zero, if_true, if_false]
      go_wp2
      go_round
      case rel => exact ⟨2, by omega, by go_num, by simp⟩
      case measure => simp [intOf]
    · simp only [show (2 : Nat) ≠ 0 by omega, show (2 : Nat) ≠ 1 by omega, if_false]
      obtain ⟨s, hs⟩ : ∃ s, s = n + m := ⟨_, rfl⟩
      rw [← hs]
      have HS := hide hs
      have hs2 : s ≤ 100000 := by omega
      clear hs
      go_wp2_with fail
      refine (grow_nil s _ hs2).mono ?_
      rintro e w1 ⟨v0, rfl, hown, hb1⟩
      have HO := hide hown
      have HB1 := hide hb1
      clear hown hb1
      go_wp2
      have hxl := HX.out.len
      have hyl := HY.out.len
      go_loopg [6, 27] 2 (fun g v i wx => ∃ k : Nat, k + g = 2 ∧ i = .int .i64 k ∧ wx.ownsRow w.heap.size 3 1 v (pre xs ys k).length ((pre xs ys k).map (.int .i64)) ∧ Below w.heap.size w wx)
      case atStart => exact ⟨0, rfl, rfl, HO.out, HB1.out⟩
      case round =>
        obtain ⟨k, hkg, rfl, hown, hb⟩ := hrel
        have hcell := hide hb
        have d0' := cell_below c0 hb
        have d1' := cell_below c1 hb
        have HX' := hide (HX.out.keep hb)
        have HY' := hide (HY.out.keep hb)
        obtain ⟨i0, hi0, hz0, hz1, hz2⟩ := info_parts intInfo
        have hwz := hb.size
        obtain ⟨g1, rfl⟩ : ∃ g1, g1 = gk := ⟨_, rfl⟩
        have HK := hide hkg
        have HO' := hide hown
        clear hb hown
        have h3 : k = 0 ∨ k = 1 ∨ k = 2 := by omega
        clear hkg
        rcases h3 with rfl | rfl | rfl
        · go_wp2_with (at_builtin; refine wpList_append_ints _ rfl _ _ 22 rfl w.heap.size 3 i0 (.int .i64 0) 8 Try.underlying22 hi0 hz0 hz1 hz2 rfl _ 0 [] (by rfl) HO'.out A n c xs (by rfl) HX'.out (by unfold maxLen; omega) (by omega) hwz ?_; intro v2 w2 own2 grow2)
          go_roundg 1
          case measure => have := HK.out; omega
          case rel =>
            refine ⟨1, rfl, rfl, ?_, hcell.out.grown grow2 hwz (fun k hk => (HO'.out.lt k hk).1)⟩
            have e : pre xs ys 1 = xs := rfl
            rw [e, hxl]
            simpa using own2
        · have e1 : (pre xs ys 1).length = n := hxl
          have HO2 := hide (show wr.ownsRow w.heap.size 3 1 u6 n (xs.map (.int .i64)) by have := HO'.out; rw [e1] at this; exact this)
          go_wp2_with (at_builtin; refine wpList_append_ints _ rfl _ _ 22 rfl w.heap.size 3 i0 (.int .i64 0) 8 Try.underlying22 hi0 hz0 hz1 hz2 rfl _ n (xs.map (.int .i64)) (by rfl) HO2.out B m d ys (by rfl) HY'.out (by unfold maxLen; omega) (by omega) hwz ?_; intro v2 w2 own2 grow2)
          go_roundg 0
          case measure => have := HK.out; omega
          case rel =>
            refine ⟨2, rfl, rfl, ?_, hcell.out.grown grow2 hwz (fun k hk => (HO'.out.lt k hk).1)⟩
            have e : pre xs ys 2 = xs ++ ys := rfl
            rw [e, List.length_append, hxl, hyl, List.map_append]
            exact own2
        · go_wp2
          go_ret
          refine ⟨_, rfl, ?_, hcell.out⟩
          have h7 := HO'.out
          have e : pre xs ys 2 = xs ++ ys := rfl
          rw [e, List.length_append, hxl, hyl] at h7
          exact h7

theorem owns_slice {w : World} {base : Nat} {e : TypeId} {size : Nat} {v : Value} {n : Nat} {xs : List Value} (h : w.ownsRow base e size v n xs) : ∃ A c, v = .slice A n c := by
  rcases h.2 with ⟨rfl, rfl⟩ | ⟨g, cap, cur, rfl, _⟩
  · exact ⟨_, _, rfl⟩
  · exact ⟨_, _, rfl⟩
theorem concat_ex (n m h : Nat) (xs ys : List Int) (w : World) (hn : n + m ≤ 100000) (h0 : ∃ A c, w.cell? ⟨h, 0, none⟩ = some (.slice A n c) ∧ IntsAt w A n xs) (h1 : ∃ B d, w.cell? ⟨h, 1, none⟩ = some (.slice B m d) ∧ IntsAt w B m ys) :
    Calls Try.prog 120 #[.slice (some ⟨h, 0, none⟩) 2 2] w fun e w' => ∃ (A : Option Addr) (c : Nat), e = .returned (.slice A (n + m) c) ∧ w'.ownsRow w.heap.size 3 1 (.slice A (n + m) c) (n + m) ((xs ++ ys).map (.int .i64)) ∧ Below w.heap.size w w' := by
  obtain ⟨A, c, c0, hx⟩ := h0
  obtain ⟨B, d, c1, hy⟩ := h1
  refine (concat_two A B n m c d h xs ys w hx hy hn c0 c1).mono ?_
  rintro e w' ⟨v, rfl, hown, hb⟩
  obtain ⟨A', c', rfl⟩ := owns_slice hown
  exact ⟨A', c', rfl, hown, hb⟩

/-- A row of the call's own that holds numbers, reached by a slice value. -/
def OwnN (w : World) (base g n cap : Nat) (l : List Nat) : Prop := w.ownsRow base 3 1 (.slice (some ⟨g, 0, none⟩) n cap) n (l.map (fun k : Nat => Value.int .i64 k))
theorem OwnN.len {w : World} {base g n cap : Nat} {l : List Nat} (h : OwnN w base g n cap l) : l.length = n := by have := h.1; simpa using this
theorem OwnN.cell {w : World} {base g n cap : Nat} {l : List Nat} (h : OwnN w base g n cap l) {k : Nat} (hk : k < n) : w.cell? ⟨g, k, none⟩ = some (.int .i64 (l.getD k 0 : Nat)) := by
  have hl := h.len
  rw [World.ownsRow.cellAt h k (by omega), List.getElem?_map, List.getElem?_eq_getElem (by omega), List.getD_eq_getElem?_getD, List.getElem?_eq_getElem (by omega)]; rfl
theorem OwnN.free {w : World} {base g n cap : Nat} {l : List Nat} (h : OwnN w base g n cap l) (k : Nat) : w.frozen? ⟨g, k, none⟩ = false := World.ownsRow.frozenAt h k
theorem OwnN.set {w : World} {base g n cap : Nat} {l : List Nat} (h : OwnN w base g n cap l) (k v : Nat) : OwnN (w.setCell ⟨g, k, none⟩ (.int .i64 (v : Nat))) base g n cap (l.set k v) ∧ w.grownBy (w.setCell ⟨g, k, none⟩ (.int .i64 (v : Nat))) (some g) := by
  have := World.ownsRow.stored h k (.int .i64 (v : Nat))
  refine ⟨?_, this.2⟩
  unfold OwnN
  rw [List.map_set]
  exact this.1
theorem grownBy_trans {w w1 w2 : World} {r : Option Nat} (h : w.grownBy w1 r) (h2 : w1.grownBy w2 r) : w.grownBy w2 r :=
  ⟨h2.os.trans h.os, h2.tape.trans h.tape, h2.output.trans h.output, Nat.le_trans h.size h2.size, fun k hk hr => (h2.block k (Nat.lt_of_lt_of_le hk h.size) hr).trans (h.block k hk hr)⟩
/-- Two half-edges made mates. -/
def jn (l : List Nat) (a b : Nat) : List Nat := (l.set a b).set b a
theorem join_any (base g n cap a b : Nat) (l : List Nat) (w : World) (h : OwnN w base g n cap l) (ha : a < n) (hb : b < n) (hn : n ≤ 100000) :
    Calls Try.prog 79 #[.slice (some ⟨g, 0, none⟩) n cap, .int .i64 (a : Int), .int .i64 (b : Int)] w fun e w' => e = .returned (.tuple #[]) ∧ OwnN w' base g n cap (jn l a b) ∧ w.grownBy w' (some g) := by
  have c1 := h.cell ha
  have f1 := h.free a
  obtain ⟨h2, g2⟩ := h.set a b
  have c2 := h2.cell hb
  have f2 := h2.free b
  obtain ⟨h3, g3⟩ := h2.set b a
  have H3 := hide h3
  have G3 := hide (grownBy_trans g2 g3)
  clear h h2 h3 g2 g3
  go_enter Try.func79, Try.ntmps79
  go_wp2
  go_end0
  exact ⟨rfl, H3.out, G3.out⟩
theorem join_int (base g n cap : Nat) (a b : Int) (l : List Nat) (w : World) (h : OwnN w base g n cap l) (ha : 0 ≤ a ∧ a < n) (hb : 0 ≤ b ∧ b < n) (hn : n ≤ 100000) :
    Calls Try.prog 79 #[.slice (some ⟨g, 0, none⟩) n cap, .int .i64 a, .int .i64 b] w fun e w' => e = .returned (.tuple #[]) ∧ OwnN w' base g n cap (jn l a.toNat b.toNat) ∧ w.grownBy w' (some g) := by
  obtain ⟨x, rfl⟩ := Int.eq_ofNat_of_zero_le ha.1
  obtain ⟨y, rfl⟩ := Int.eq_ofNat_of_zero_le hb.1
  rw [Int.toNat_natCast, Int.toNat_natCast]
  exact join_any base g n cap x y l w h (by omega) (by omega) hn
end Go.Proofs.Ytobbepmlmbbamaa
