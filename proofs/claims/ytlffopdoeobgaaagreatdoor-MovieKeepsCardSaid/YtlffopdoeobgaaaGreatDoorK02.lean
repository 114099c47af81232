/-
 The texts Wd, Can, Iso, Pcs, We, Wf, Wg in one.
-/
import Derived.Test.YtlffopdoeobgaaaGreatDoorK00
import Derived.Test.YtlffopdoeobgaaaGreatDoorK01
import Derived.Deep.LoopGhost
import Derived.Deep.RegionWith
import Derived.Deep.RegionHeld3
import Derived.Deep.DrawnRows
import Derived.StillTailTactics
set_option linter.unusedVariables false
set_option linter.unusedSimpArgs false
section
namespace Go.Proofs.YtlffopdoeobgaaaGreatDoor
open Go.RowKit
def pre (xs ys : List Int) (k : Nat) : List Int := if k = 0 then [] else if k = 1 then xs else xs ++ ys
set_option maxRecDepth 100000 in
set_option maxHeartbeats 2000000 in
theorem concat_two (A B : Option Addr) (n m c d h : Nat) (xs ys : List Int) (w : World) (hx : IntsAt w A n xs) (hy : IntsAt w B m ys) (hn : n + m ≤ 100000)
 (c0 : w.cell? ⟨h, 0, none⟩ = some (.slice A n c)) (c1 : w.cell? ⟨h, 1, none⟩ = some (.slice B m d)) :
 Calls Tryz.prog 132 #[.slice (some ⟨h, 0, none⟩) 2 2] w fun e w' => ∃ v, e = .returned v ∧ w'.ownsRow w.heap.size 3 1 v (n + m) ((xs ++ ys).map (.int .i64)) ∧ Below w.heap.size w w' := by
 have HX := hide hx
 have HY := hide hy
 clear hx hy
 go_enter Tryz.func132, Tryz.ntmps132
 go_wp2
 go_loop [3, 11] (fun s i => ∃ k : Nat, k ≤ 2 ∧ i = .int .i64 k ∧ s = .int .i64 ((if k = 0 then 0 else if k = 1 then n else n + m : Nat) : Int)) (fun _ i => 2 - (intOf i).toNat)
 case atStart => exact ⟨0, by omega, rfl, rfl⟩
 case round =>
  obtain ⟨k, hk, rfl, rfl⟩ := hrel
  have h3 : k = 0 ∨ k = 1 ∨ k = 2 := by omega
  rcases h3 with rfl | rfl | rfl
  ·simp only [if_true]
   go_wp2
   go_round
   case rel => exact ⟨1, by omega, by go_num, by simp⟩
   case measure => simp [intOf]
  ·simp only [Nat.one_ne_zero, if_true, if_false]
   go_wp2
   go_round
   case rel => exact ⟨2, by omega, by go_num, by simp⟩
   case measure => simp [intOf]
  ·simp only [show (2 : Nat) ≠ 0 by omega, show (2 : Nat) ≠ 1 by omega, if_false]
   obtain ⟨s, hs⟩ : ∃ s, s = n + m := ⟨_, rfl⟩
   rw [← hs]
   have HS := hide hs
   have hs2 : s ≤ 100000 := by omega
   clear hs
   go_wp2_with fail
   refine (grow_nil s _ hs2).mono ?_
   rintro e w1 ⟨v0, rfl, hown, hb1⟩
   have HO := hide hown
   have HB1 := hide hb1
   clear hown hb1
   go_wp2
   have hxl := HX.out.len
   have hyl := HY.out.len
   go_loopg [6, 27] 2 (fun g v i wx => ∃ k : Nat, k + g = 2 ∧ i = .int .i64 k ∧ wx.ownsRow w.heap.size 3 1 v (pre xs ys k).length ((pre xs ys k).map (.int .i64)) ∧ Below w.heap.size w wx)
   case atStart => exact ⟨0, rfl, rfl, HO.out, HB1.out⟩
   case round =>
    obtain ⟨k, hkg, rfl, hown, hb⟩ := hrel
    have hcell := hide hb
    have d0' := cell_below c0 hb
    have d1' := cell_below c1 hb
    have HX' := hide (HX.out.keep hb)
    have HY' := hide (HY.out.keep hb)
    obtain ⟨i0, hi0, hz0, hz1, hz2⟩ := info_parts intInfo
    have hwz := hb.size
    obtain ⟨g1, rfl⟩ : ∃ g1, g1 = gk := ⟨_, rfl⟩
    have HK := hide hkg
    have HO' := hide hown
    clear hb hown
    have h3 : k = 0 ∨ k = 1 ∨ k = 2 := by omega
    clear hkg
    rcases h3 with rfl | rfl | rfl
    ·go_wp2_with (at_builtin; refine wpList_append_ints _ rfl _ _ 22 rfl w.heap.size 3 i0 (.int .i64 0) 8 Tryz.underlying22 hi0 hz0 hz1 hz2 rfl _ 0 [] (by rfl) HO'.out A n c xs (by rfl) HX'.out (by unfold maxLen; omega) (by omega) hwz ?_; intro v2 w2 own2 grow2)
     go_roundg 1
     case measure => have := HK.out; omega
     case rel =>
      refine ⟨1, rfl, rfl, ?_, hcell.out.grown grow2 hwz (fun k hk => (HO'.out.lt k hk).1)⟩
      have e : pre xs ys 1 = xs := rfl
      rw [e, hxl]
      simpa using own2
    ·have e1 : (pre xs ys 1).length = n := hxl
     have HO2 := hide (show wr.ownsRow w.heap.size 3 1 u6 n (xs.map (.int .i64)) by have := HO'.out; rw [e1] at this; exact this)
     go_wp2_with (at_builtin; refine wpList_append_ints _ rfl _ _ 22 rfl w.heap.size 3 i0 (.int .i64 0) 8 Tryz.underlying22 hi0 hz0 hz1 hz2 rfl _ n (xs.map (.int .i64)) (by rfl) HO2.out B m d ys (by rfl) HY'.out (by unfold maxLen; omega) (by omega) hwz ?_; intro v2 w2 own2 grow2)
     go_roundg 0
     case measure => have := HK.out; omega
     case rel =>
      refine ⟨2, rfl, rfl, ?_, hcell.out.grown grow2 hwz (fun k hk => (HO'.out.lt k hk).1)⟩
      have e : pre xs ys 2 = xs ++ ys := rfl
      rw [e, List.length_append, hxl, hyl, List.map_append]
      exact own2
    ·go_wp2
     go_ret
     refine ⟨_, rfl, ?_, hcell.out⟩
     have h7 := HO'.out
     have e : pre xs ys 2 = xs ++ ys := rfl
     rw [e, List.length_append, hxl, hyl] at h7
     exact h7
theorem owns_slice {w : World} {base : Nat} {e : TypeId} {size : Nat} {v : Value} {n : Nat} {xs : List Value} (h : w.ownsRow base e size v n xs) : ∃ A c, v = .slice A n c := by
 rcases h.2 with ⟨rfl, rfl⟩ | ⟨g, cap, cur, rfl, _⟩
 ·exact ⟨_, _, rfl⟩
 ·exact ⟨_, _, rfl⟩
theorem concat_ex (n m h : Nat) (xs ys : List Int) (w : World) (hn : n + m ≤ 100000) (h0 : ∃ A c, w.cell? ⟨h, 0, none⟩ = some (.slice A n c) ∧ IntsAt w A n xs) (h1 : ∃ B d, w.cell? ⟨h, 1, none⟩ = some (.slice B m d) ∧ IntsAt w B m ys) :
 Calls Tryz.prog 132 #[.slice (some ⟨h, 0, none⟩) 2 2] w fun e w' => ∃ (A : Option Addr) (c : Nat), e = .returned (.slice A (n + m) c) ∧ w'.ownsRow w.heap.size 3 1 (.slice A (n + m) c) (n + m) ((xs ++ ys).map (.int .i64)) ∧ Below w.heap.size w w' := by
 obtain ⟨A, c, c0, hx⟩ := h0
 obtain ⟨B, d, c1, hy⟩ := h1
 refine (concat_two A B n m c d h xs ys w hx hy hn c0 c1).mono ?_
 rintro e w' ⟨v, rfl, hown, hb⟩
 obtain ⟨A', c', rfl⟩ := owns_slice hown
 exact ⟨A', c', rfl, hown, hb⟩
def OwnN (w : World) (base g n cap : Nat) (l : List Nat) : Prop := w.ownsRow base 3 1 (.slice (some ⟨g, 0, none⟩) n cap) n (l.map (fun k : Nat => Value.int .i64 k))
theorem OwnN.len {w : World} {base g n cap : Nat} {l : List Nat} (h : OwnN w base g n cap l) : l.length = n := by have := h.1; simpa using this
theorem OwnN.cell {w : World} {base g n cap : Nat} {l : List Nat} (h : OwnN w base g n cap l) {k : Nat} (hk : k < n) : w.cell? ⟨g, k, none⟩ = some (.int .i64 (l.getD k 0 : Nat)) := by
 have hl := h.len
 rw [World.ownsRow.cellAt h k (by omega), List.getElem?_map, List.getElem?_eq_getElem (by omega), List.getD_eq_getElem?_getD, List.getElem?_eq_getElem (by omega)]; rfl
theorem OwnN.free {w : World} {base g n cap : Nat} {l : List Nat} (h : OwnN w base g n cap l) (k : Nat) : w.frozen? ⟨g, k, none⟩ = false := World.ownsRow.frozenAt h k
theorem OwnN.set {w : World} {base g n cap : Nat} {l : List Nat} (h : OwnN w base g n cap l) (k v : Nat) : OwnN (w.setCell ⟨g, k, none⟩ (.int .i64 (v : Nat))) base g n cap (l.set k v) ∧ w.grownBy (w.setCell ⟨g, k, none⟩ (.int .i64 (v : Nat))) (some g) := by
 have := World.ownsRow.stored h k (.int .i64 (v : Nat))
 refine ⟨?_, this.2⟩
 unfold OwnN
 rw [List.map_set]
 exact this.1
theorem grownBy_trans {w w1 w2 : World} {r : Option Nat} (h : w.grownBy w1 r) (h2 : w1.grownBy w2 r) : w.grownBy w2 r :=
 ⟨h2.os.trans h.os, h2.tape.trans h.tape, h2.output.trans h.output, Nat.le_trans h.size h2.size, fun k hk hr => (h2.block k (Nat.lt_of_lt_of_le hk h.size) hr).trans (h.block k hk hr)⟩
def jn (l : List Nat) (a b : Nat) : List Nat := (l.set a b).set b a
theorem join_any (base g n cap a b : Nat) (l : List Nat) (w : World) (h : OwnN w base g n cap l) (ha : a < n) (hb : b < n) (hn : n ≤ 100000) :
 Calls Tryz.prog 83 #[.slice (some ⟨g, 0, none⟩) n cap, .int .i64 (a : Int), .int .i64 (b : Int)] w fun e w' => e = .returned (.tuple #[]) ∧ OwnN w' base g n cap (jn l a b) ∧ w.grownBy w' (some g) := by
 have c1 := h.cell ha
 have f1 := h.free a
 obtain ⟨h2, g2⟩ := h.set a b
 have c2 := h2.cell hb
 have f2 := h2.free b
 obtain ⟨h3, g3⟩ := h2.set b a
 have H3 := hide h3
 have G3 := hide (grownBy_trans g2 g3)
 clear h h2 h3 g2 g3
 go_enter Tryz.func83, Tryz.ntmps83
 go_wp2
 go_end0
 exact ⟨rfl, H3.out, G3.out⟩
theorem join_int (base g n cap : Nat) (a b : Int) (l : List Nat) (w : World) (h : OwnN w base g n cap l) (ha : 0 ≤ a ∧ a < n) (hb : 0 ≤ b ∧ b < n) (hn : n ≤ 100000) :
 Calls Tryz.prog 83 #[.slice (some ⟨g, 0, none⟩) n cap, .int .i64 a, .int .i64 b] w fun e w' => e = .returned (.tuple #[]) ∧ OwnN w' base g n cap (jn l a.toNat b.toNat) ∧ w.grownBy w' (some g) := by
 obtain ⟨x, rfl⟩ := Int.eq_ofNat_of_zero_le ha.1
 obtain ⟨y, rfl⟩ := Int.eq_ofNat_of_zero_le hb.1
 rw [Int.toNat_natCast, Int.toNat_natCast]
 exact join_any base g n cap x y l w h (by omega) (by omega) hn
end Go.Proofs.YtlffopdoeobgaaaGreatDoor
end
section
namespace Go.Proofs.YtlffopdoeobgaaaGreatDoor.Pl
variable {d : Dg}
def addN (o : List Nat) (b : Nat) : List Nat := if b ∈ o then o else o ++ [b]
def addS (d : Dg) (o : List Nat) (c : Nat) : Nat → List Nat
 | 0 => o
 | s + 1 => addN (addS d o c s) (nb d c s)
def ordK (d : Dg) (r : Nat) : Nat → List Nat
 | 0 => [r]
 | k + 1 => match (ordK d r k)[k]? with
   | some c => addS d (ordK d r k) c 4
   | none => ordK d r k
def ord (d : Dg) (r : Nat) : List Nat := ordK d r d.n
def chk (d : Dg) (o : List Nat) (c : Nat) : List Int :=
 [d.s c, ((4 * o.idxOf (nb d c 0) + d.m (4 * c) % 4 : Nat) : Int), ((4 * o.idxOf (nb d c 1) + d.m (4 * c + 1) % 4 : Nat) : Int), ((4 * o.idxOf (nb d c 2) + d.m (4 * c + 2) % 4 : Nat) : Int), ((4 * o.idxOf (nb d c 3) + d.m (4 * c + 3) % 4 : Nat) : Int)]
def code (d : Dg) (r : Nat) : List Int := (ord d r).flatMap (chk d (ord d r))
end Go.Proofs.YtlffopdoeobgaaaGreatDoor.Pl
end
section
namespace Go.Proofs.YtlffopdoeobgaaaGreatDoor.Pl
def hf (σ : Nat → Nat) (h : Nat) : Nat := 4 * σ (h / 4) + h % 4
section
variable {a b : Dg} {σ : Nat → Nat}
end
end Go.Proofs.YtlffopdoeobgaaaGreatDoor.Pl
end
section
namespace Go.Proofs.YtlffopdoeobgaaaGreatDoor.Pl
def lx : List Int → List Int → Int
 | [], [] => 0
 | [], _ :: _ => -1
 | _ :: _, [] => 1
 | x :: l, y :: m => if x < y then -1 else if y < x then 1 else lx l m
structure Pc where
 code : List Int
 order : List Nat
 roots : Int
section
variable {a b : Dg} {ps qs : List Pc} {σ : Nat → Nat}
end
end Go.Proofs.YtlffopdoeobgaaaGreatDoor.Pl
end
section
namespace Go.Proofs.YtlffopdoeobgaaaGreatDoor
open Go.RowKit
attribute [local go_sem ↓] Go.wp_at_zero Go.wp_at_succ
structure GS (w : World) (g : Nat) (x0 x1 x2 : Value) (W : World) : Prop where
 row : ∃ vs, Row W g 24 [x0, x1, x2] ∧ Row W (g + 1) 24 vs ∧ vs.length = 3
 bel : Below w.heap.size w W
 lo : w.heap.size ≤ g
theorem GS.drew {w : World} {g : Nat} {x0 x1 x2 : Value} {W : World} (h : GS w g x0 x1 x2 W) : GS w g x0 x1 x2 W.drew := ⟨h.row, h.bel.drew, h.lo⟩
def cv (W : World) (a : Addr) : Value := (W.cell? a).getD (.bool false)
theorem cv_some {W : World} {a : Addr} {v : Value} (h : W.cell? a = some v) : W.cell? a = some (cv W a) := by unfold cv; rw [h]; rfl
theorem GS.alloc {w : World} {g : Nat} {x0 x1 x2 : Value} {W : World} (h : GS w g x0 x1 x2 W) (o : Obj) : GS w g x0 x1 x2 (W.alloc o) :=
 let ⟨vs, r1, r2, r3⟩ := h.row
 ⟨⟨vs, r1.alloc o, r2.alloc o, r3⟩, h.bel.alloc h.bel.size o, h.lo⟩
theorem GS.below {w : World} {g : Nat} {x0 x1 x2 : Value} {W W' : World} (h : GS w g x0 x1 x2 W) (hb : Below W.heap.size W W') : GS w g x0 x1 x2 W' :=
 let ⟨vs, r1, r2, r3⟩ := h.row
 ⟨⟨vs, r1.below hb, r2.below hb, r3⟩, h.bel.trans (hb.mono h.bel.size), h.lo⟩
theorem GS.set {w : World} {g : Nat} {x0 x1 x2 : Value} {W : World} (h : GS w g x0 x1 x2 W) (o : Nat) (v : Value) : GS w g x0 x1 x2 (W.setCell ⟨g + 1, o, none⟩ v) :=
 let ⟨vs, r1, r2, r3⟩ := h.row
 ⟨⟨vs.set o v, r1.other (by simp) v, r2.set o v, by rw [List.length_set, r3]⟩, h.bel.setCell (by have := h.lo; simp; omega) v, h.lo⟩
theorem GS.all {w : World} {g : Nat} {x0 x1 x2 : Value} {W : World} (h : GS w g x0 x1 x2 W) : W.cell? ⟨g, 0, none⟩ = some x0 ∧ W.cell? ⟨g, 1, none⟩ = some x1 ∧ W.cell? ⟨g, 2, none⟩ = some x2 ∧ W.cell? ⟨g + 1, 0, none⟩ = some (cv W ⟨g + 1, 0, none⟩) ∧ W.cell? ⟨g + 1, 1, none⟩ = some (cv W ⟨g + 1, 1, none⟩) ∧ W.cell? ⟨g + 1, 2, none⟩ = some (cv W ⟨g + 1, 2, none⟩) ∧ (∀ o, W.frozen? ⟨g + 1, o, none⟩ = false) ∧ GS w g x0 x1 x2 W := by
 obtain ⟨vs, r1, r2, r3⟩ := h.row
 exact ⟨r1.cell (i := 0) (by show 0 < 3; omega), r1.cell (i := 1) (by show 1 < 3; omega), r1.cell (i := 2) (by show 2 < 3; omega), cv_some (r2.cell (i := 0) (by omega)), cv_some (r2.cell (i := 1) (by omega)), cv_some (r2.cell (i := 2) (by omega)), fun o => r2.free o, h⟩
theorem GS.fin {w : World} {g : Nat} {x0 x1 x2 : Value} {W : World} (h : GS w g x0 x1 x2 W) (y0 y1 y2 : Value) :
 (((W.setCell ⟨g + 1, 0, none⟩ y0).setCell ⟨g + 1, 1, none⟩ y1).setCell ⟨g + 1, 2, none⟩ y2).cell? ⟨g + 1, 0, none⟩ = some y0 ∧ (((W.setCell ⟨g + 1, 0, none⟩ y0).setCell ⟨g + 1, 1, none⟩ y1).setCell ⟨g + 1, 2, none⟩ y2).cell? ⟨g + 1, 1, none⟩ = some y1 ∧ (((W.setCell ⟨g + 1, 0, none⟩ y0).setCell ⟨g + 1, 1, none⟩ y1).setCell ⟨g + 1, 2, none⟩ y2).cell? ⟨g + 1, 2, none⟩ = some y2 := by
 obtain ⟨vs, _, r2, r3⟩ := h.row
 have r := ((r2.set 0 y0).set 1 y1).set 2 y2
 obtain ⟨a, b, c, rfl⟩ : ∃ a b c, vs = [a, b, c] := by
  match vs, r3 with
  | [a, b, c], _ => exact ⟨a, b, c, rfl⟩
 exact ⟨r.cell (i := 0) (by simp), r.cell (i := 1) (by simp), r.cell (i := 2) (by simp)⟩
theorem GS.start (w : World) (x0 x1 x2 y0 y1 y2 : Value) : GS w w.heap.size x0 x1 x2 ((w.alloc (.cells #[x0, x1, x2] 24)).alloc (.cells #[y0, y1, y2] 24)) := by
 refine ⟨⟨[y0, y1, y2], Row.alloc (Row.new w _ [x0, x1, x2]) _, ?_, rfl⟩, ((Below.refl _ _).alloc (Nat.le_refl _) _).alloc (by simp) _, Nat.le_refl _⟩
 have := Row.new (w.alloc (.cells #[x0, x1, x2] 24)) 24 [y0, y1, y2]
 simpa using this
theorem IntsAt.alloc {w : World} {A : Option Addr} {n : Nat} {zs : List Int} (h : IntsAt w A n zs) (o : Obj) : IntsAt (w.alloc o) A n zs := h.keep ((Below.refl _ _).alloc (Nat.le_refl _) o)
theorem IntsAt.drew {w : World} {A : Option Addr} {n : Nat} {zs : List Int} (h : IntsAt w A n zs) : IntsAt w.drew A n zs := h
theorem made_at {w : World} {g : Nat} (h : g = w.heap.size) (n : Nat) : IntsAt (w.alloc (.cells (Array.replicate n (Value.int .i64 0)) 3)) (some ⟨g, 0, none⟩) n (List.replicate n 0) := by
 subst h
 have := (IRow.made w n).ints
 rw [List.length_replicate] at this
 exact this
theorem owns_pos {w : World} {base : Nat} {e : TypeId} {A : Option Addr} {n c : Nat} {xs : List Value} (hn : 0 < n) (h : w.ownsRow base e 1 (.slice A n c) n xs) : ∃ g, A = some ⟨g, 0, none⟩ ∧ base ≤ g ∧ g < w.heap.size := by
 rcases h.2 with ⟨_, h0⟩ | ⟨g, cap, cur, h1, h2, h3, _⟩
 ·omega
 ·injection h1 with h1
  exact ⟨g, h1, h2, lt_of_heap h3⟩
theorem own_keep {w w' : World} {base base' : Nat} {e : TypeId} {v : Value} {n : Nat} {xs : List Value} (h : w.ownsRow base e 1 v n xs) (hb : Below w.heap.size w w') (hle : base' ≤ base) : w'.ownsRow base' e 1 v n xs := by
 refine ⟨h.1, ?_⟩
 rcases h.2 with hz | ⟨g, cap, cur, r1, r2, r3, r4⟩
 ·exact .inl hz
 ·exact .inr ⟨g, cap, cur, r1, Nat.le_trans hle r2, (hb.block g (lt_of_heap r3)).trans r3, r4⟩
theorem own_set {w : World} {base : Nat} {e : TypeId} {g n c b o : Nat} {v : Value} {xs : List Value} (h : w.ownsRow base e 1 (.slice (some ⟨g, 0, none⟩) n c) n xs) (hne : g ≠ b) : (w.setCell ⟨b, o, none⟩ v).ownsRow base e 1 (.slice (some ⟨g, 0, none⟩) n c) n xs := by
 refine ⟨h.1, ?_⟩
 rcases h.2 with hz | ⟨g', cap, cur, r1, r2, r3, r4⟩
 ·exact .inl hz
 ·injection r1 with e1 e2 e3
  injection e1 with e1
  injection e1 with e1
  subst e1
  exact .inr ⟨g, cap, cur, by rw [e3], r2, (Below.heap_setCell w _ v g hne).trans r3, r4⟩
theorem nats_rep (l : List Nat) (k : Nat) : (nats l ++ List.replicate k 0).map (Value.int .i64) = (l ++ List.replicate k 0).map (fun j : Nat => Value.int .i64 j) := by
 unfold nats
 simp
set_option maxRecDepth 100000 in
set_option maxHeartbeats 8000000 in
theorem grown_any (d : Pl.Dg) (A B : Option Addr) (cp cq s cs h m m4 : Nat) (ss : List Int) (w : World) (hm : m = 4 * d.n) (hm4 : m4 = 4 * s) (hg : DgAt w A B d) (hs : IntsAt w (some ⟨h, 0, none⟩) s ss) (hn : d.n ≤ 1000) (hs1 : 1 ≤ s) (hs2 : s ≤ 10) :
 Calls Tryz.prog 82 #[.agg #[.slice A d.n cp, .slice B m cq, .int .i64 d.lp], .slice (some ⟨h, 0, none⟩) s cs] w fun e w' => ∃ g1 c1 g2 c2 : Nat, e = .returned (.agg #[.slice (some ⟨g1, 0, none⟩) (d.n + s) c1, .slice (some ⟨g2, 0, none⟩) (m + m4) c2, .int .i64 d.lp]) ∧
  w'.ownsRow w.heap.size 3 1 (.slice (some ⟨g1, 0, none⟩) (d.n + s) c1) (d.n + s) ((d.sg ++ ss).map (.int .i64)) ∧ OwnN w' w.heap.size g2 (m + m4) c2 (d.mt ++ List.replicate m4 0) ∧ g1 ≠ g2 ∧ Below w.heap.size w w' := by
 have HS := hide hg.s
 have HMT := hide (show IntsAt w B m (nats d.mt) by rw [hm]; exact hg.m)
 have HSS := hide hs
 have HM := hide hm
 have hmm : m ≤ 4000 := by omega
 have hm44 : m4 ≤ 40 := by omega
 have hmk := fun W : World => run_ints m4 (by omega) W
 have h44 : 4 * (s : Int) = (m4 : Int) := by omega
 clear hm hm4 hg hs
 have HGS := hide (GS.start w (.slice A d.n cp) (.slice B m cq) (.int .i64 d.lp) (.slice none 0 0) (.slice none 0 0) (.int .i64 0))
 go_enter Tryz.func82, Tryz.ntmps82
 go_wp2
 have hwr : IntKind.i64.wrap (m4 : Int) = (m4 : Int) := IntWalk.i64_in _ (by omega)
 go_region_held3 (fun w' => w'.cell? ⟨w.heap.size, 0, none⟩ = some (.slice A d.n cp) ∧ w'.cell? ⟨w.heap.size, 1, none⟩ = some (.slice B m cq) ∧ w'.cell? ⟨w.heap.size, 2, none⟩ = some (.int .i64 d.lp) ∧ w'.cell? ⟨w.heap.size + 1, 0, none⟩ = some (cv w' ⟨w.heap.size + 1, 0, none⟩) ∧ w'.cell? ⟨w.heap.size + 1, 1, none⟩ = some (cv w' ⟨w.heap.size + 1, 1, none⟩) ∧ w'.cell? ⟨w.heap.size + 1, 2, none⟩ = some (cv w' ⟨w.heap.size + 1, 2, none⟩) ∧ (∀ o, w'.frozen? ⟨w.heap.size + 1, o, none⟩ = false) ∧ GS w w.heap.size (.slice A d.n cp) (.slice B m cq) (.int .i64 d.lp) w')
  ((go_split_ands; refine GS.all ?_; (repeat (first | assumption | (with_reducible exact HGS.out) | (with_reducible refine GS.set ?_ _ _) | (with_reducible refine GS.alloc ?_ _) | (with_reducible refine GS.drew ?_) | (with_reducible refine GS.below ?_ hba) | (with_reducible refine GS.below ?_ hbb)))))
  (first
    | (go_at_call 132
       refine Calls.mono (concat_ex d.n s _ d.sg ss _ (by omega) ?_ ?_) ?_
       ·refine ⟨A, cp, ?_, HS.out.keep (GS.bel (g := w.heap.size) (x0 := .slice A d.n cp) (x1 := .slice B m cq) (x2 := .int .i64 d.lp) ?_)⟩
        ·first | (go_simp; done) | ((with_reducible refine cell_below ?_ hbb); go_simp; done)
        ·repeat (first | assumption | (with_reducible exact HGS.out) | (with_reducible refine GS.set ?_ _ _) | (with_reducible refine GS.alloc ?_ _) | (with_reducible refine GS.drew ?_) | (with_reducible refine GS.below ?_ hba) | (with_reducible refine GS.below ?_ hbb))
       ·refine ⟨some ⟨h, 0, none⟩, cs, ?_, HSS.out.keep (GS.bel (g := w.heap.size) (x0 := .slice A d.n cp) (x1 := .slice B m cq) (x2 := .int .i64 d.lp) ?_)⟩
        ·first | (go_simp; done) | ((with_reducible refine cell_below ?_ hbb); go_simp; done)
        ·repeat (first | assumption | (with_reducible exact HGS.out) | (with_reducible refine GS.set ?_ _ _) | (with_reducible refine GS.alloc ?_ _) | (with_reducible refine GS.drew ?_) | (with_reducible refine GS.below ?_ hba) | (with_reducible refine GS.below ?_ hbb))
       rintro e wa ⟨Aa, ca, rfl, owna, hba⟩)
    | (go_at_call 132
       refine Calls.mono (concat_ex m m4 _ (nats d.mt) (List.replicate m4 0) _ (by omega) ?_ ?_) ?_
       ·refine ⟨B, cq, ?_, HMT.out.keep (GS.bel (g := w.heap.size) (x0 := .slice A d.n cp) (x1 := .slice B m cq) (x2 := .int .i64 d.lp) ?_)⟩
        ·first | (go_simp; done) | ((with_reducible refine cell_below ?_ hba); go_simp; done)
        ·repeat (first | assumption | (with_reducible exact HGS.out) | (with_reducible refine GS.set ?_ _ _) | (with_reducible refine GS.alloc ?_ _) | (with_reducible refine GS.drew ?_) | (with_reducible refine GS.below ?_ hba) | (with_reducible refine GS.below ?_ hbb))
       ·refine ⟨?_, m4, ?_, ?_⟩
        rotate_left 1
        ·first | (go_simp; rfl) | ((with_reducible refine cell_below ?_ hba); go_simp; rfl)
        ·repeat (first | ((with_reducible refine made_at ?_ _); (simp; done)) | (with_reducible refine made_at rfl _) | (with_reducible refine IntsAt.drew ?_) | (with_reducible refine IntsAt.alloc ?_ _) | (with_reducible refine IntsAt.keep ?_ hba))
       rintro e wb ⟨Ab, cb, rfl, ownb, hbb⟩))
 all_goals
  obtain ⟨g1, rfl, b1, l1⟩ := owns_pos (by omega) owna
  obtain ⟨g2, rfl, b2, l2⟩ := owns_pos (by omega) ownb
  go_wp2
  refine bodyPost_ret (v := .agg #[.slice (some ⟨g1, 0, none⟩) (d.n + s) ca, .slice (some ⟨g2, 0, none⟩) (m + m4) cb, .int .i64 d.lp]) ?_ rfl ⟨g1, ca, g2, cb, rfl, ?_, ?_, ?_, ?_⟩
  ·first
    | (have hx : GS w w.heap.size (.slice A d.n cp) (.slice B m cq) (.int .i64 d.lp) wb := by
        repeat (first | assumption | (with_reducible exact HGS.out) | (with_reducible refine GS.set ?_ _ _) | (with_reducible refine GS.alloc ?_ _) | (with_reducible refine GS.drew ?_) | (with_reducible refine GS.below ?_ hba) | (with_reducible refine GS.below ?_ hbb))
       obtain ⟨e0, e1, e2⟩ := hx.fin (.slice (some ⟨g1, 0, none⟩) (d.n + s) ca) (.slice (some ⟨g2, 0, none⟩) (m + m4) cb) (.int .i64 d.lp)
       simp [results, Tryz.results82, go_sem, e0, e1, e2]
       done)
    | (have hx : GS w w.heap.size (.slice A d.n cp) (.slice B m cq) (.int .i64 d.lp) wa := by
        repeat (first | assumption | (with_reducible exact HGS.out) | (with_reducible refine GS.set ?_ _ _) | (with_reducible refine GS.alloc ?_ _) | (with_reducible refine GS.drew ?_) | (with_reducible refine GS.below ?_ hba) | (with_reducible refine GS.below ?_ hbb))
       obtain ⟨e0, e1, e2⟩ := hx.fin (.slice (some ⟨g1, 0, none⟩) (d.n + s) ca) (.slice (some ⟨g2, 0, none⟩) (m + m4) cb) (.int .i64 d.lp)
       simp [results, Tryz.results82, go_sem, e0, e1, e2]
       done)
  ·simp at b1 b2
   refine own_set (own_set (own_set ?_ (by omega)) (by omega)) (by omega)
   first
    | (refine own_keep owna (Below.refl _ _) ?_; first | omega | (simp; done) | (simp; omega))
    | (refine own_keep owna (Below.trans ?_ (hbb.mono ?_)) ?_; all_goals (repeat (first | exact Below.refl _ _ | (with_reducible refine Below.drew ?_) | (with_reducible refine Below.alloc ?_ ?_ _) | omega | (simp; done) | (simp; omega))))
  ·simp at b1 b2
   unfold OwnN
   rw [← nats_rep]
   refine own_set (own_set (own_set ?_ (by omega)) (by omega)) (by omega)
   first
    | (refine own_keep ownb (Below.refl _ _) ?_; first | omega | (simp; done) | (simp; omega))
    | (refine own_keep ownb (Below.trans ?_ (hba.mono ?_)) ?_; all_goals (repeat (first | exact Below.refl _ _ | (with_reducible refine Below.drew ?_) | (with_reducible refine Below.alloc ?_ ?_ _) | omega | (simp; done) | (simp; omega))))
  ·simp at b1 b2
   omega
  ·refine GS.bel (g := w.heap.size) (x0 := .slice A d.n cp) (x1 := .slice B m cq) (x2 := .int .i64 d.lp) ?_
   repeat (first | assumption | (with_reducible exact HGS.out) | (with_reducible refine GS.set ?_ _ _) | (with_reducible refine GS.alloc ?_ _) | (with_reducible refine GS.drew ?_) | (with_reducible refine GS.below ?_ hba) | (with_reducible refine GS.below ?_ hbb))
end Go.Proofs.YtlffopdoeobgaaaGreatDoor
end
section
namespace Go.Proofs.YtlffopdoeobgaaaGreatDoor
open Go.RowKit
theorem bcell {W w1 : World} (hb : Below W.heap.size W w1) : (∀ b o, b < W.heap.size → w1.cell? ⟨b, o, none⟩ = W.cell? ⟨b, o, none⟩) ∧ (∀ b o, b < W.heap.size → w1.frozen? ⟨b, o, none⟩ = W.frozen? ⟨b, o, none⟩) :=
 ⟨fun b o h => hb.cell (p := ⟨b, o, none⟩) h, fun b o h => hb.frozen (p := ⟨b, o, none⟩) h⟩
structure Mv where
 kind : Int
 x : Int
 y : Int
 sign : Int
 over : Bool
def Mv.v (m : Mv) : Value := .agg #[.int .i64 m.kind, .int .i64 m.x, .int .i64 m.y, .int .i64 m.sign, .bool m.over]
def fullC (n k : Nat) : Int := if 64 < n + k then 5 else 0
def curlableC (d : Pl.Dg) (x : Int) : Int := if x < 0 then (if d.lp = 0 then 6 else fullC d.n 1) else if Pl.out d x.toNat = true then fullC d.n 1 else 6
set_option maxRecDepth 100000 in
set_option maxHeartbeats 2000000 in
theorem curlable_any (d : Pl.Dg) (A B : Option Addr) (cp cq : Nat) (k x y sg : Int) (ov : Bool) (w : World) (hg : DgAt w A B d) (hn : d.n ≤ 64) (hlp : d.lp ≤ 64) (hx : -1 ≤ x ∧ x < 4 * d.n) :
 Calls Tryz.prog 81 #[.agg #[.slice A d.n cp, .slice B (4 * d.n) cq, .int .i64 d.lp], .agg #[.int .i64 k, .int .i64 x, .int .i64 y, .int .i64 sg, .bool ov]] w fun e w' => e = .returned (.int .i64 (curlableC d x)) ∧ Below w.heap.size w w' := by
 obtain ⟨m, hm⟩ : ∃ m, m = 4 * d.n := ⟨_, rfl⟩
 rw [← hm]
 have HM := hide hm
 clear hm
 have b0 : Below w.heap.size w ((w.alloc (.cells #[.slice A d.n cp, .slice B m cq, .int .i64 d.lp] 24)).alloc (.cells #[.int .i64 k, .int .i64 x, .int .i64 y, .int .i64 sg, .bool ov] 36)) := ((Below.refl _ _).alloc (Nat.le_refl _) _).alloc (by simp) _
 have HS := hide (hg.s.keep b0)
 clear hg
 by_cases hx0 : 0 ≤ x
 ·obtain ⟨q, rfl⟩ := Int.eq_ofNat_of_zero_le hx0
  have hq : q < 4 * d.n := by omega
  have t1 : decide (0 ≤ (q : Int)) = true := by simp
  go_enter Tryz.func81, Tryz.ntmps81
  go_wp2_with fail
  refine (out2_n d A B d.n cp m cq (.int .i64 d.lp) q _ rfl hq (by omega) HS.out).mono ?_
  rintro e w1 ⟨rfl, hb1⟩
  have b1 := b0.trans (hb1.mono b0.size)
  obtain ⟨hc, hf⟩ := bcell hb1
  have hsz : w.heap.size + 1 < w1.heap.size := by have := hb1.size; simp at this; omega
  have e0 : curlableC d (q : Int) = if Pl.out d q = true then fullC d.n 1 else 6 := by unfold curlableC; rw [if_neg (by omega), Int.toNat_natCast]
  have E0 := hide e0
  clear e0
  clear t1
  go_wp2
  all_goals
   go_ret
   refine ⟨ret_int ?_, b1⟩
   rw [E0.out]
   unfold fullC
   repeat' split
   all_goals first | omega | (exfalso; first | omega | (simp_all; done))
 ·go_enter Tryz.func81, Tryz.ntmps81
  go_wp2
  all_goals
   go_ret
   refine ⟨ret_int ?_, b0⟩
   unfold curlableC fullC
   rw [if_pos (by omega)]
   simp only [beq_iff_eq, beq_eq_false_iff_ne, ne_eq] at *
   repeat' split
   all_goals omega
theorem curlable_m (d : Pl.Dg) (A B : Option Addr) (cp cq m : Nat) (k x y sg : Int) (ov : Bool) (w : World) (hm : m = 4 * d.n) (hg : DgAt w A B d) (hn : d.n ≤ 64) (hlp : d.lp ≤ 64) (hx : -1 ≤ x ∧ x < 4 * d.n) :
 Calls Tryz.prog 81 #[.agg #[.slice A d.n cp, .slice B m cq, .int .i64 d.lp], .agg #[.int .i64 k, .int .i64 x, .int .i64 y, .int .i64 sg, .bool ov]] w fun e w' => e = .returned (.int .i64 (curlableC d x)) ∧ Below w.heap.size w w' := by
 subst hm; exact curlable_any d A B cp cq k x y sg ov w hg hn hlp hx
end Go.Proofs.YtlffopdoeobgaaaGreatDoor
end
section
namespace Go.Proofs.YtlffopdoeobgaaaGreatDoor
open Go.RowKit
def nilD : Value := .agg #[.slice none 0 0, .slice none 0 0, .int .i64 0]
def nilM : Value := .agg #[.int .i64 0, .int .i64 0, .int .i64 0, .int .i64 0, .bool false]
def ResErr (k : Int) (e : Ending) : Prop := e = .returned (.tuple #[nilD, nilM, .int .i64 k])
structure DgT (w : World) (A : Option Addr) (B : Option Addr) (d : Pl.Dg) : Prop where
 s : RowT w 3 A d.n (d.sg.map (.int .i64))
 m : RowT w 3 B (4 * d.n) ((nats d.mt).map (.int .i64))
theorem DgT.at {w : World} {A B : Option Addr} {d : Pl.Dg} (h : DgT w A B d) : DgAt w A B d := ⟨h.s.row, h.m.row⟩
theorem DgT.keep {w w' : World} {A B : Option Addr} {d : Pl.Dg} (h : DgT w A B d) (hb : Below w.heap.size w w') : DgT w' A B d := ⟨h.s.keep hb, h.m.keep hb⟩
theorem own_intsT {w : World} {base : Nat} {e : TypeId} {A : Option Addr} {n c : Nat} {zs : List Int} (h : w.ownsRow base e 1 (.slice A n c) n (zs.map (.int .i64))) : RowT w e A n (zs.map (.int .i64)) := by
 have hl := h.1
 refine ⟨by simpa using hl, fun hn => ?_⟩
 rcases h.2 with ⟨_, h2⟩ | ⟨g, cap, cur, h1, _, h3, _, _, _, h7⟩
 ·omega
 ·injection h1 with h1 _ _
  refine ⟨g, 0, cur, (0, 0), h1, h3, fun j u hu => ?_⟩
  rw [Nat.zero_add, ← Array.getElem?_toList]
  have h9 := hu
  rw [← h7, List.getElem?_take] at h9
  split at h9
  ·exact h9
  ·exact absurd h9 (by simp)
theorem OwnN.intsT {w : World} {base g n c : Nat} {l : List Nat} (h : OwnN w base g n c l) : RowT w 3 (some ⟨g, 0, none⟩) n ((nats l).map (.int .i64)) := by
 refine own_intsT (base := base) (e := 3) (c := c) ?_
 unfold OwnN at h
 unfold nats
 rw [List.map_map]
 exact h
def ResOk (r : Pl.Dg) (mv : Mv) (e : Ending) (w' : World) : Prop :=
 ∃ (A B : Option Addr) (c1 c2 : Nat), e = .returned (.tuple #[.agg #[.slice A r.n c1, .slice B (4 * r.n) c2, .int .i64 r.lp], mv.v, .int .i64 0]) ∧ DgT w' A B r
theorem fin8 {W : World} {gd gm : Nat} {vs us : List Value} (h1 : Row W gd 24 vs) (h2 : Row W gm 36 us) (l1 : vs.length = 3) (l2 : us.length = 5) (hne : gd ≠ gm) (y0 y1 y2 z0 z1 z2 z3 z4 : Value) :
 ((((((((W.setCell ⟨gd, 0, none⟩ y0).setCell ⟨gd, 1, none⟩ y1).setCell ⟨gd, 2, none⟩ y2).setCell ⟨gm, 0, none⟩ z0).setCell ⟨gm, 1, none⟩ z1).setCell ⟨gm, 2, none⟩ z2).setCell ⟨gm, 3, none⟩ z3).setCell ⟨gm, 4, none⟩ z4).cell? ⟨gd, 0, none⟩ = some y0 ∧ ((((((((W.setCell ⟨gd, 0, none⟩ y0).setCell ⟨gd, 1, none⟩ y1).setCell ⟨gd, 2, none⟩ y2).setCell ⟨gm, 0, none⟩ z0).setCell ⟨gm, 1, none⟩ z1).setCell ⟨gm, 2, none⟩ z2).setCell ⟨gm, 3, none⟩ z3).setCell ⟨gm, 4, none⟩ z4).cell? ⟨gd, 1, none⟩ = some y1 ∧ ((((((((W.setCell ⟨gd, 0, none⟩ y0).setCell ⟨gd, 1, none⟩ y1).setCell ⟨gd, 2, none⟩ y2).setCell ⟨gm, 0, none⟩ z0).setCell ⟨gm, 1, none⟩ z1).setCell ⟨gm, 2, none⟩ z2).setCell ⟨gm, 3, none⟩ z3).setCell ⟨gm, 4, none⟩ z4).cell? ⟨gd, 2, none⟩ = some y2 ∧ ((((((((W.setCell ⟨gd, 0, none⟩ y0).setCell ⟨gd, 1, none⟩ y1).setCell ⟨gd, 2, none⟩ y2).setCell ⟨gm, 0, none⟩ z0).setCell ⟨gm, 1, none⟩ z1).setCell ⟨gm, 2, none⟩ z2).setCell ⟨gm, 3, none⟩ z3).setCell ⟨gm, 4, none⟩ z4).cell? ⟨gm, 0, none⟩ = some z0 ∧ ((((((((W.setCell ⟨gd, 0, none⟩ y0).setCell ⟨gd, 1, none⟩ y1).setCell ⟨gd, 2, none⟩ y2).setCell ⟨gm, 0, none⟩ z0).setCell ⟨gm, 1, none⟩ z1).setCell ⟨gm, 2, none⟩ z2).setCell ⟨gm, 3, none⟩ z3).setCell ⟨gm, 4, none⟩ z4).cell? ⟨gm, 1, none⟩ = some z1 ∧ ((((((((W.setCell ⟨gd, 0, none⟩ y0).setCell ⟨gd, 1, none⟩ y1).setCell ⟨gd, 2, none⟩ y2).setCell ⟨gm, 0, none⟩ z0).setCell ⟨gm, 1, none⟩ z1).setCell ⟨gm, 2, none⟩ z2).setCell ⟨gm, 3, none⟩ z3).setCell ⟨gm, 4, none⟩ z4).cell? ⟨gm, 2, none⟩ = some z2 ∧ ((((((((W.setCell ⟨gd, 0, none⟩ y0).setCell ⟨gd, 1, none⟩ y1).setCell ⟨gd, 2, none⟩ y2).setCell ⟨gm, 0, none⟩ z0).setCell ⟨gm, 1, none⟩ z1).setCell ⟨gm, 2, none⟩ z2).setCell ⟨gm, 3, none⟩ z3).setCell ⟨gm, 4, none⟩ z4).cell? ⟨gm, 3, none⟩ = some z3 ∧ ((((((((W.setCell ⟨gd, 0, none⟩ y0).setCell ⟨gd, 1, none⟩ y1).setCell ⟨gd, 2, none⟩ y2).setCell ⟨gm, 0, none⟩ z0).setCell ⟨gm, 1, none⟩ z1).setCell ⟨gm, 2, none⟩ z2).setCell ⟨gm, 3, none⟩ z3).setCell ⟨gm, 4, none⟩ z4).cell? ⟨gm, 4, none⟩ = some z4 := by
 obtain ⟨a, b, c, rfl⟩ : ∃ a b c, vs = [a, b, c] := by
  match vs, l1 with
  | [a, b, c], _ => exact ⟨a, b, c, rfl⟩
 obtain ⟨a', b', c', d', e', rfl⟩ : ∃ a b c d e, us = [a, b, c, d, e] := by
  match us, l2 with
  | [a, b, c, d, e], _ => exact ⟨a, b, c, d, e, rfl⟩
 have r1 := ((((((((h1.set 0 y0).set 1 y1).set 2 y2).other (a := ⟨gm, 0, none⟩) hne z0).other (a := ⟨gm, 1, none⟩) hne z1).other (a := ⟨gm, 2, none⟩) hne z2).other (a := ⟨gm, 3, none⟩) hne z3).other (a := ⟨gm, 4, none⟩) hne z4)
 have r2 := ((((((((h2.other (a := ⟨gd, 0, none⟩) (Ne.symm hne) y0).other (a := ⟨gd, 1, none⟩) (Ne.symm hne) y1).other (a := ⟨gd, 2, none⟩) (Ne.symm hne) y2).set 0 z0).set 1 z1).set 2 z2).set 3 z3).set 4 z4)
 exact ⟨r1.cell (i := 0) (by simp), r1.cell (i := 1) (by simp), r1.cell (i := 2) (by simp), r2.cell (i := 0) (by simp), r2.cell (i := 1) (by simp), r2.cell (i := 2) (by simp), r2.cell (i := 3) (by simp), r2.cell (i := 4) (by simp)⟩
theorem box3 {W : World} {g : Nat} {t : TypeId} {a b c : Value} (h : Row W g t [a, b, c]) : W.cell? ⟨g, 0, none⟩ = some a ∧ W.cell? ⟨g, 1, none⟩ = some b ∧ W.cell? ⟨g, 2, none⟩ = some c ∧ ∀ o, W.frozen? ⟨g, o, none⟩ = false :=
 ⟨h.cell (i := 0) (by simp), h.cell (i := 1) (by simp), h.cell (i := 2) (by simp), h.free⟩
theorem box5 {W : World} {g : Nat} {t : TypeId} {a b c d e : Value} (h : Row W g t [a, b, c, d, e]) : W.cell? ⟨g, 0, none⟩ = some a ∧ W.cell? ⟨g, 1, none⟩ = some b ∧ W.cell? ⟨g, 2, none⟩ = some c ∧ W.cell? ⟨g, 3, none⟩ = some d ∧ W.cell? ⟨g, 4, none⟩ = some e ∧ ∀ o, W.frozen? ⟨g, o, none⟩ = false :=
 ⟨h.cell (i := 0) (by simp), h.cell (i := 1) (by simp), h.cell (i := 2) (by simp), h.cell (i := 3) (by simp), h.cell (i := 4) (by simp), h.free⟩
theorem own_grown {w w' : World} {base : Nat} {e : TypeId} {g g' n c : Nat} {xs : List Value} (h : w.ownsRow base e 1 (.slice (some ⟨g, 0, none⟩) n c) n xs) (hg : w.grownBy w' (some g')) (hne : g ≠ g') : w'.ownsRow base e 1 (.slice (some ⟨g, 0, none⟩) n c) n xs := by
 refine ⟨h.1, ?_⟩
 rcases h.2 with hz | ⟨k, cap, cur, r1, r2, r3, r4⟩
 ·exact .inl hz
 ·injection r1 with e1 e2 e3
  injection e1 with e1
  injection e1 with e1
  subst e1
  subst e3
  exact .inr ⟨g, c, cur, rfl, r2, (hg.block g (lt_of_heap r3) (by intro h; injection h; omega)).trans r3, r4⟩
theorem own_ints {w : World} {base : Nat} {e : TypeId} {g n c : Nat} {zs : List Int} (h : w.ownsRow base e 1 (.slice (some ⟨g, 0, none⟩) n c) n (zs.map (.int .i64))) : IntsAt w (some ⟨g, 0, none⟩) n zs := by
 have hl := h.1
 refine ⟨by simpa using hl, fun _ => ⟨g, 0, rfl, fun j u hu => ?_⟩⟩
 rw [Nat.zero_add]
 have hj : j < n := by
  have := (List.getElem?_eq_some_iff.mp hu).1
  simp at this hl
  omega
 rw [World.ownsRow.cellAt h j (by simpa using hj)]
 exact hu
theorem OwnN.ints {w : World} {base g n c : Nat} {l : List Nat} (h : OwnN w base g n c l) : IntsAt w (some ⟨g, 0, none⟩) n (nats l) := by
 refine own_ints (base := base) (e := 3) (c := c) ?_
 unfold OwnN at h
 unfold nats
 rw [List.map_map]
 exact h
theorem Row.drew' {w W : World} {g : Nat} {t : TypeId} {vs : List Value} (e : W = w.drew) (h : Row w g t vs) : Row W g t vs := e ▸ h
theorem own_drew {w W : World} {base : Nat} {t : TypeId} {v : Value} {n : Nat} {xs : List Value} (e : W = w.drew) (h : w.ownsRow base t 1 v n xs) : W.ownsRow base t 1 v n xs := by subst e; exact h
theorem OwnN.drew' {w W : World} {base g n c : Nat} {l : List Nat} (e : W = w.drew) (h : OwnN w base g n c l) : OwnN W base g n c l := by subst e; exact h
def kI0 (n : Nat) (sg : Int) (ov : Bool) : Nat := if ov then (if sg = -1 then 4 * n + 1 else 4 * n + 3) else 4 * n
def kO0 (n : Nat) (sg : Int) (ov : Bool) : Nat := if ov then (if sg = -1 then 4 * n + 3 else 4 * n + 1) else 4 * n + 2
def kI1 (n : Nat) (sg : Int) (ov : Bool) : Nat := if ov then 4 * n else (if sg = -1 then 4 * n + 1 else 4 * n + 3)
def kO1 (n : Nat) (sg : Int) (ov : Bool) : Nat := if ov then 4 * n + 2 else (if sg = -1 then 4 * n + 3 else 4 * n + 1)
def crl (d : Pl.Dg) (x sg : Int) (ov : Bool) : Pl.Dg where
 sg := d.sg ++ [sg]
 mt := if x < 0 then jn (jn (d.mt ++ List.replicate 4 0) (kO0 d.n sg ov) (kI1 d.n sg ov)) (kO1 d.n sg ov) (kI0 d.n sg ov) else jn (jn (jn (d.mt ++ List.replicate 4 0) (kO0 d.n sg ov) (kI1 d.n sg ov)) (kO1 d.n sg ov) (d.m x.toNat)) x.toNat (kI0 d.n sg ov)
 lp := if x < 0 then d.lp - 1 else d.lp
theorem crl_n (d : Pl.Dg) (x sg : Int) (ov : Bool) : (crl d x sg ov).n = d.n + 1 := by unfold Pl.Dg.n crl; simp
def CurlPost (d : Pl.Dg) (x sg : Int) (ov : Bool) (w : World) (e : Ending) (w' : World) : Prop := (curlableC d x ≠ 0 → ResErr (curlableC d x) e) ∧ (curlableC d x = 0 → ResOk (crl d x sg ov) ⟨2, d.n, 0, 0, false⟩ e w') ∧ Below w.heap.size w w'
theorem Row.cast {W W3 : World} {g : Nat} {t : TypeId} {vs : List Value} (h : W3 = W) (r : Row W g t vs) : Row W3 g t vs := h ▸ r
set_option maxRecDepth 100000 in
set_option maxHeartbeats 4000000 in
theorem curl_any (d : Pl.Dg) (hd : Pl.Wf d) (A B : Option Addr) (cp cq : Nat) (k x y sg : Int) (ov : Bool) (w : World) (hg : DgAt w A B d) (hx : -1 ≤ x ∧ x < 4 * d.n) (hsg : sg = 1 ∨ sg = -1) :
 Calls Tryz.prog 46 #[.agg #[.slice A d.n cp, .slice B (4 * d.n) cq, .int .i64 d.lp], .agg #[.int .i64 k, .int .i64 x, .int .i64 y, .int .i64 sg, .bool ov]] w (CurlPost d x sg ov w) := by
 have hn := hd.few
 have hlp := hd.lp
 obtain ⟨m, hm⟩ : ∃ m, m = 4 * d.n := ⟨_, rfl⟩
 have HG := hide hg
 clear hg
 rw [← hm]
 have HM := hide hm
 clear hm
 have b0 : Below w.heap.size w ((((w.alloc (.cells #[.slice A d.n cp, .slice B m cq, .int .i64 d.lp] 24)).alloc (.cells #[.int .i64 k, .int .i64 x, .int .i64 y, .int .i64 sg, .bool ov] 36)).alloc (.cells #[.slice none 0 0, .slice none 0 0, .int .i64 0] 24)).alloc (.cells #[.int .i64 0, .int .i64 0, .int .i64 0, .int .i64 0, .bool false] 36)) := ((((Below.refl _ _).alloc (Nat.le_refl _) _).alloc (by simp) _).alloc (by simp; omega) _).alloc (by simp; omega) _
 have x2 : Row ((((w.alloc (.cells #[.slice A d.n cp, .slice B m cq, .int .i64 d.lp] 24)).alloc (.cells #[.int .i64 k, .int .i64 x, .int .i64 y, .int .i64 sg, .bool ov] 36)).alloc (.cells #[.slice none 0 0, .slice none 0 0, .int .i64 0] 24)).alloc (.cells #[.int .i64 0, .int .i64 0, .int .i64 0, .int .i64 0, .bool false] 36)) (w.heap.size + 1 + 1) 24 [.slice none 0 0, .slice none 0 0, .int .i64 0] := by
  have := (Row.new ((w.alloc (.cells #[.slice A d.n cp, .slice B m cq, .int .i64 d.lp] 24)).alloc (.cells #[.int .i64 k, .int .i64 x, .int .i64 y, .int .i64 sg, .bool ov] 36)) 24 [.slice none 0 0, .slice none 0 0, .int .i64 0]).alloc (.cells #[.int .i64 0, .int .i64 0, .int .i64 0, .int .i64 0, .bool false] 36)
  simpa using this
 have x3 : Row ((((w.alloc (.cells #[.slice A d.n cp, .slice B m cq, .int .i64 d.lp] 24)).alloc (.cells #[.int .i64 k, .int .i64 x, .int .i64 y, .int .i64 sg, .bool ov] 36)).alloc (.cells #[.slice none 0 0, .slice none 0 0, .int .i64 0] 24)).alloc (.cells #[.int .i64 0, .int .i64 0, .int .i64 0, .int .i64 0, .bool false] 36)) (w.heap.size + 1 + 1 + 1) 36 [.int .i64 0, .int .i64 0, .int .i64 0, .int .i64 0, .bool false] := by
  have := Row.new (((w.alloc (.cells #[.slice A d.n cp, .slice B m cq, .int .i64 d.lp] 24)).alloc (.cells #[.int .i64 k, .int .i64 x, .int .i64 y, .int .i64 sg, .bool ov] 36)).alloc (.cells #[.slice none 0 0, .slice none 0 0, .int .i64 0] 24)) 36 [.int .i64 0, .int .i64 0, .int .i64 0, .int .i64 0, .bool false]
  simpa using this
 have X0 := hide (show Row ((((w.alloc (.cells #[.slice A d.n cp, .slice B m cq, .int .i64 d.lp] 24)).alloc (.cells #[.int .i64 k, .int .i64 x, .int .i64 y, .int .i64 sg, .bool ov] 36)).alloc (.cells #[.slice none 0 0, .slice none 0 0, .int .i64 0] 24)).alloc (.cells #[.int .i64 0, .int .i64 0, .int .i64 0, .int .i64 0, .bool false] 36)) w.heap.size 24 [.slice A d.n cp, .slice B m cq, .int .i64 d.lp] from (((Row.new w _ [.slice A d.n cp, .slice B m cq, .int .i64 d.lp]).alloc _).alloc _).alloc _)
 have X1 := hide (show Row ((((w.alloc (.cells #[.slice A d.n cp, .slice B m cq, .int .i64 d.lp] 24)).alloc (.cells #[.int .i64 k, .int .i64 x, .int .i64 y, .int .i64 sg, .bool ov] 36)).alloc (.cells #[.slice none 0 0, .slice none 0 0, .int .i64 0] 24)).alloc (.cells #[.int .i64 0, .int .i64 0, .int .i64 0, .int .i64 0, .bool false] 36)) (w.heap.size + 1) 36 [.int .i64 k, .int .i64 x, .int .i64 y, .int .i64 sg, .bool ov] by
  have := ((Row.new (w.alloc (.cells #[.slice A d.n cp, .slice B m cq, .int .i64 d.lp] 24)) 36 [.int .i64 k, .int .i64 x, .int .i64 y, .int .i64 sg, .bool ov]).alloc (.cells #[.slice none 0 0, .slice none 0 0, .int .i64 0] 24)).alloc (.cells #[.int .i64 0, .int .i64 0, .int .i64 0, .int .i64 0, .bool false] 36)
  simpa using this)
 have X2 := hide x2
 have X3 := hide x3
 clear x2 x3
 go_enter Tryz.func46, Tryz.ntmps46
 go_wp2_with fail
 refine (curlable_m d A B cp cq m k x y sg ov _ HM.out (HG.out.keep b0) hn hlp hx).mono ?_
 rintro e w1 ⟨rfl, hb1⟩
 have b1 := b0.trans (hb1.mono b0.size)
 have Y0 := hide (X0.out.below hb1)
 have Y1 := hide (X1.out.below hb1)
 have Y2 := hide (X2.out.below hb1)
 have Y3 := hide (X3.out.below hb1)
 obtain ⟨hc, hf⟩ := bcell hb1
 have hsz : w.heap.size + 3 < w1.heap.size := by have := hb1.size; simp at this; omega
 have l1 : w.heap.size < w1.heap.size := by omega
 have l2 : w.heap.size + 1 < w1.heap.size := by omega
 have l3 : w.heap.size + 1 + 1 < w1.heap.size := by omega
 have l4 : w.heap.size + 1 + 1 + 1 < w1.heap.size := by omega
 by_cases hC : curlableC d x = 0
 ·have t1 : (curlableC d x != 0) = false := by rw [bne_eq_false_iff_eq]; exact hC
  have HC := hide hC
  clear hC
  have b2 : Below w.heap.size w (w1.alloc (.cells #[.int .i64 sg] 3)) := b1.alloc (by omega) _
  have HSS := hide (show IntsAt (w1.alloc (.cells #[.int .i64 sg] 3)) (some ⟨w1.heap.size, 0, none⟩) 1 [sg] by
   refine ⟨rfl, fun _ => ⟨_, 0, rfl, fun j u hu => ?_⟩⟩
   match j, hu with
   | 0, hu => simp at hu; subst hu; exact (Lib.cell_of_heap (heap_alloc_new w1 _) 0).trans rfl)
  rcases hsg with rfl | rfl <;> cases ov
  all_goals
   go_wp2_with fail
   refine (grown_any d A B cp cq 1 1 w1.heap.size m 4 [_] _ HM.out (by omega) (HG.out.keep b2) HSS.out (by omega) (by omega) (by omega)).mono ?_
   rintro e w2 ⟨g1, c1, g2, c2, rfl, own1, own2, hne, hb2⟩
   have b3 := b2.trans (hb2.mono b2.size)
   have hsz2 : w1.heap.size + 1 ≤ w2.heap.size := by have := hb2.size; simp at this; omega
   have k1 : w.heap.size + 1 + 1 + 1 < w2.heap.size := by omega
   obtain ⟨W3, hW3⟩ : ∃ W3 : World, W3 = w2.alloc (.cells #[.slice (some ⟨g1, 0, none⟩) (d.n + 1) c1, .slice (some ⟨g2, 0, none⟩) (m + 4) c2, .int .i64 d.lp] 24) := ⟨_, rfl⟩
   have Z0 := hide (show Row W3 w.heap.size 24 [.slice A d.n cp, .slice B m cq, .int .i64 d.lp] by rw [hW3]; exact ((Y0.out.alloc _).below hb2).alloc _)
   have Z1 := hide (Row.cast hW3 (((Y1.out.alloc _).below hb2).alloc _))
   have T2 := hide (show Row W3 (w.heap.size + 1 + 1) 24 [.slice none 0 0, .slice none 0 0, .int .i64 0] by rw [hW3]; exact ((Y2.out.alloc _).below hb2).alloc _)
   have T3 := hide (show Row W3 (w.heap.size + 1 + 1 + 1) 36 [.int .i64 0, .int .i64 0, .int .i64 0, .int .i64 0, .bool false] by rw [hW3]; exact ((Y3.out.alloc _).below hb2).alloc _)
   have Z9 := hide (show Row W3 w2.heap.size 24 [.slice (some ⟨g1, 0, none⟩) (d.n + 1) c1, .slice (some ⟨g2, 0, none⟩) (m + 4) c2, .int .i64 d.lp] by rw [hW3]; exact Row.new w2 _ _)
   have ZN := hide (show OwnN W3 w1.heap.size g2 (m + 4) c2 (d.mt ++ List.replicate 4 0) by rw [hW3]; exact own_keep own2 ((Below.refl _ _).alloc (Nat.le_refl _) _) (by simp))
   obtain ⟨e0, e1, e2, e3, e4, e5⟩ := box5 (((Y1.out.alloc (.cells #[.int .i64 _] 3)).below hb2).alloc (.cells #[.slice (some ⟨g1, 0, none⟩) (d.n + 1) c1, .slice (some ⟨g2, 0, none⟩) (m + 4) c2, .int .i64 d.lp] 24))
   have T1 := hide (own_keep own1 ((Below.refl _ _).alloc (Nat.le_refl _) (.cells #[.slice (some ⟨g1, 0, none⟩) (d.n + 1) c1, .slice (some ⟨g2, 0, none⟩) (m + 4) c2, .int .i64 d.lp] 24)) (Nat.le_refl _))
   rw [← hW3] at T1
   obtain ⟨g2', eg2, lg2, ug2⟩ := owns_pos (by omega) own2
   injection eg2 with eg2
   injection eg2 with eg2 eg3
   subst eg2
   simp at lg2
   obtain ⟨g1', eg1, lg1, ug1⟩ := owns_pos (by omega) own1
   injection eg1 with eg1
   injection eg1 with eg1 eg4
   subst eg1
   simp at lg1
   clear own1 own2 t1 eg3 eg4
   go_wp2_with fail
   rw [← hW3]
   clear e0 e1 e2 e3 e4 e5
   refine (join_int w1.heap.size g2 (m + 4) c2 _ _ (d.mt ++ List.replicate 4 0) W3 ZN.out (by have := HM.out; omega) (by have := HM.out; omega) (by have := HM.out; omega)).mono ?_
   rintro e w4 ⟨rfl, own4, gr4⟩
   have V0 := hide (Z0.out.grown gr4 (by intro h; injection h; omega))
   have V1 := hide (Z1.out.grown gr4 (by intro h; injection h; omega))
   have V9 := hide (Z9.out.grown gr4 (by intro h; injection h; omega))
   have hs4 : w2.heap.size + 1 ≤ w4.heap.size := by have := gr4.size; rw [hW3] at this; simpa using this
   have b33 : Below w.heap.size w W3 := by rw [hW3]; exact b3.alloc (by omega) _
   have b4 : Below w.heap.size w w4 := b33.grown gr4 b33.size (fun k hk => by injection hk with hk; omega)
   clear b33
   have HG4 := hide (HG.out.keep b4)
   have v1 : w4.cell? ⟨w.heap.size + 1, 1, none⟩ = some (.int .i64 x) := V1.out.cell (i := 1) (by show 1 < 5; omega)
   have OWN4 := hide own4
   have v9 : w4.cell? ⟨w2.heap.size, 1, none⟩ = some (.slice (some ⟨g2, 0, none⟩) (m + 4) c2) := V9.out.cell (i := 1) (by show 1 < 3; omega)
   have v0 : w4.cell? ⟨w.heap.size, 1, none⟩ = some (.slice B m cq) := V0.out.cell (i := 1) (by show 1 < 3; omega)
   clear own4
   by_cases hx0 : x < 0
   ·have t2 : decide (x < 0) = true := by simpa using hx0
    go_wp2_with fail
    refine (join_int w1.heap.size g2 (m + 4) c2 _ _ _ w4 OWN4.out (by have := HM.out; omega) (by have := HM.out; omega) (by have := HM.out; omega)).mono ?_
    rintro e w5 ⟨rfl, own5, gr5⟩
    have U9 := hide (V9.out.grown gr5 (by intro h; injection h; omega))
    have hs5 := gr5.size
    have b5 : Below w.heap.size w w5 := b4.grown gr5 b4.size (fun k hk => by injection hk with hk; omega)
    have R2 := hide (show Row w5 (w.heap.size + 1 + 1) 24 [.slice none 0 0, .slice none 0 0, .int .i64 0] from (T2.out.grown gr4 (by intro h; injection h; omega)).grown gr5 (by intro h; injection h; omega))
    have R3 := hide (show Row w5 (w.heap.size + 1 + 1 + 1) 36 [.int .i64 0, .int .i64 0, .int .i64 0, .int .i64 0, .bool false] from (T3.out.grown gr4 (by intro h; injection h; omega)).grown gr5 (by intro h; injection h; omega))
    obtain ⟨q0, q1, q2, q3⟩ := box3 R2.out
    obtain ⟨p0, p1, p2, p3, p4, p5⟩ := box5 R3.out
    have u9 : w5.cell? ⟨w2.heap.size, 2, none⟩ = some (.int .i64 d.lp) := U9.out.cell (i := 2) (by show 2 < 3; omega)
    have u90 : w5.cell? ⟨w2.heap.size, 0, none⟩ = some (.slice (some ⟨g1, 0, none⟩) (d.n + 1) c1) := U9.out.cell (i := 0) (by show 0 < 3; omega)
    have u91 : w5.cell? ⟨w2.heap.size, 1, none⟩ = some (.slice (some ⟨g2, 0, none⟩) (m + 4) c2) := U9.out.cell (i := 1) (by show 1 < 3; omega)
    have uf : w5.frozen? ⟨w2.heap.size, 2, none⟩ = false := U9.out.free 2
    have OWN5 := hide own5
    have S5 := hide (own_grown (own_grown T1.out gr4 hne) gr5 hne)
    clear own5 gr4 gr5 v9 v0 v1
    go_wp2_with fail
    clear q0 q1 q2 q3 p0 p1 p2 p3 p4 p5
    refine bodyPost_ret (v := .tuple #[.agg #[.slice (some ⟨g1, 0, none⟩) (d.n + 1) c1, .slice (some ⟨g2, 0, none⟩) (m + 4) c2, .int .i64 ((d.lp : Int) - 1)], .agg #[.int .i64 2, .int .i64 d.n, .int .i64 0, .int .i64 0, .bool false], .int .i64 0]) ?_ rfl ?_
    ·obtain ⟨e0, e1, e2, e3, e4, e5, e6, e7⟩ := fin8 (R2.out.other (a := ⟨w2.heap.size, 2, none⟩) (by show _ ≠ w2.heap.size; omega) (.int .i64 ((d.lp : Int) - 1))) (R3.out.other (a := ⟨w2.heap.size, 2, none⟩) (by show _ ≠ w2.heap.size; omega) (.int .i64 ((d.lp : Int) - 1))) rfl rfl (by omega) (.slice (some ⟨g1, 0, none⟩) (d.n + 1) c1) (.slice (some ⟨g2, 0, none⟩) (m + 4) c2) (.int .i64 ((d.lp : Int) - 1)) (.int .i64 2) (.int .i64 d.n) (.int .i64 0) (.int .i64 0) (.bool false)
     simp [results, Tryz.results46, go_sem, e0, e1, e2, e3, e4, e5, e6, e7]
    ·have hl1 : 1 ≤ d.lp := by
      have := HC.out
      unfold curlableC at this
      rw [if_pos hx0] at this
      by_cases h0 : d.lp = 0
      ·rw [if_pos h0] at this; omega
      ·omega
     have en := crl_n d x
     have em : m + 4 = 4 * (d.n + 1) := by have := HM.out; omega
     have el : ((d.lp : Int) - 1) = ((d.lp - 1 : Nat) : Int) := by omega
     have O5 := OWN5.out
     simp only [show (4 * (d.n : Int)).toNat = 4 * d.n by omega, show (4 * (d.n : Int) + 1).toNat = 4 * d.n + 1 by omega, show (4 * (d.n : Int) + 2).toNat = 4 * d.n + 2 by omega, show (4 * (d.n : Int) + 3).toNat = 4 * d.n + 3 by omega] at O5
     refine ⟨fun h => absurd HC.out h, fun _ => ⟨some ⟨g1, 0, none⟩, some ⟨g2, 0, none⟩, c1, c2, ?_, ?_, ?_⟩, ?_⟩
     ·rw [en, el, em]
      unfold crl Mv.v
      simp only [if_pos hx0]
     ·rw [en]
      refine own_intsT (base := w1.heap.size + 1) (e := 3) (c := c1) ?_
      (iterate 9 refine own_set ?_ (by omega))
      have := S5.out
      simp at this
      simpa [crl] using this
     ·rw [en, ← em]
      refine OwnN.intsT (base := w1.heap.size) (c := c2) ?_
      unfold OwnN
      (iterate 9 refine own_set ?_ (by omega))
      unfold OwnN at O5
      unfold crl kI0 kI1 kO0 kO1
      simp only [if_pos hx0]
      first
       | exact O5
       | (simp; exact O5)
       | (simp at O5 ⊢; exact O5)
     ·exact (((((((((b5.setCell (by simp; omega) _).setCell (by simp; omega) _).setCell (by simp; omega) _).setCell (by simp; omega) _).setCell (by simp; omega) _).setCell (by simp; omega) _).setCell (by simp; omega) _).setCell (by simp; omega) _).setCell (by simp; omega) _)
   ·obtain ⟨q, rfl⟩ := Int.eq_ofNat_of_zero_le (show 0 ≤ x by omega)
    have t2 : decide ((q : Int) < 0) = false := by simp
    have hq : q < 4 * d.n := by omega
    obtain ⟨b, o, rfl, cm⟩ := mate_at HG4.out.m hq
    have hmn : d.m q < 4 * d.n := hd.lt q hq
    have hqm : q < m := by have := HM.out; omega
    have hqm2 : (q : Int) < (m : Int) := by omega
    have hqm3 : (0 : Int) ≤ (q : Int) := by omega
    go_upto_region 17 with fail
    go_still_tail 9, (by kernel_rfl)
    change wpList _ _ _ _ _ w4.drew
    obtain ⟨W6, hW6⟩ : ∃ W6 : World, W6 = w4.drew := ⟨_, rfl⟩
    rw [← hW6]
    have OWN6 := hide (OwnN.drew' hW6 OWN4.out)
    have S6 := hide (own_drew hW6 (own_grown T1.out gr4 hne))
    have R26 := hide (Row.drew' hW6 (T2.out.grown gr4 (by intro h; injection h; omega)))
    have R36 := hide (Row.drew' hW6 (T3.out.grown gr4 (by intro h; injection h; omega)))
    have V16 := hide (Row.drew' hW6 V1.out)
    have V96 := hide (Row.drew' hW6 V9.out)
    have b6 : Below w.heap.size w W6 := by rw [hW6]; exact b4.drew
    have hs6 : w2.heap.size + 1 ≤ W6.heap.size := by rw [hW6]; exact hs4
    clear hW6
    clear gr4 v9 v0 v1 cm
    go_wp2_with fail
    refine (join_int w1.heap.size g2 (m + 4) c2 _ _ _ W6 OWN6.out (by have := HM.out; omega) (by have := HM.out; omega) (by have := HM.out; omega)).mono ?_
    rintro e w5 ⟨rfl, own5, gr5⟩
    have V15 := hide (V16.out.grown gr5 (by intro h; injection h; omega))
    have V95 := hide (V96.out.grown gr5 (by intro h; injection h; omega))
    have S5 := hide (own_grown S6.out gr5 hne)
    have R25 := hide (R26.out.grown gr5 (by intro h; injection h; omega))
    have R35 := hide (R36.out.grown gr5 (by intro h; injection h; omega))
    have b5 : Below w.heap.size w w5 := b6.grown gr5 b6.size (fun k hk => by injection hk with hk; omega)
    have hs5 := gr5.size
    have OWN5 := hide own5
    have v9 : w5.cell? ⟨w2.heap.size, 1, none⟩ = some (.slice (some ⟨g2, 0, none⟩) (m + 4) c2) := V95.out.cell (i := 1) (by show 1 < 3; omega)
    have v1 : w5.cell? ⟨w.heap.size + 1, 1, none⟩ = some (.int .i64 (q : Int)) := V15.out.cell (i := 1) (by show 1 < 5; omega)
    clear own5 gr5
    go_wp2_with fail
    refine (join_int w1.heap.size g2 (m + 4) c2 _ _ _ w5 OWN5.out (by have := HM.out; omega) (by have := HM.out; omega) (by have := HM.out; omega)).mono ?_
    rintro e w7 ⟨rfl, own7, gr7⟩
    have S7 := hide (own_grown S5.out gr7 hne)
    have R2 := hide (show Row w7 (w.heap.size + 1 + 1) 24 [.slice none 0 0, .slice none 0 0, .int .i64 0] from R25.out.grown gr7 (by intro h; injection h; omega))
    have R3 := hide (show Row w7 (w.heap.size + 1 + 1 + 1) 36 [.int .i64 0, .int .i64 0, .int .i64 0, .int .i64 0, .bool false] from R35.out.grown gr7 (by intro h; injection h; omega))
    have b7 : Below w.heap.size w w7 := b5.grown gr7 b5.size (fun k hk => by injection hk with hk; omega)
    obtain ⟨q0, q1, q2, q3⟩ := box3 R2.out
    obtain ⟨p0, p1, p2, p3, p4, p5⟩ := box5 R3.out
    obtain ⟨u0, u1, u2, u3⟩ := box3 (V95.out.grown gr7 (by intro h; injection h; omega))
    have OWN7 := hide own7
    clear own7 gr7 v9 v1
    go_wp2_with fail
    clear q0 q1 q2 q3 p0 p1 p2 p3 p4 p5 u0 u1 u2 u3
    refine bodyPost_ret (v := .tuple #[.agg #[.slice (some ⟨g1, 0, none⟩) (d.n + 1) c1, .slice (some ⟨g2, 0, none⟩) (m + 4) c2, .int .i64 (d.lp : Int)], .agg #[.int .i64 2, .int .i64 d.n, .int .i64 0, .int .i64 0, .bool false], .int .i64 0]) ?_ rfl ?_
    ·obtain ⟨e0, e1, e2, e3, e4, e5, e6, e7⟩ := fin8 R2.out R3.out rfl rfl (by omega) (.slice (some ⟨g1, 0, none⟩) (d.n + 1) c1) (.slice (some ⟨g2, 0, none⟩) (m + 4) c2) (.int .i64 (d.lp : Int)) (.int .i64 2) (.int .i64 d.n) (.int .i64 0) (.int .i64 0) (.bool false)
     simp [results, Tryz.results46, go_sem, e0, e1, e2, e3, e4, e5, e6, e7]
    ·have en := crl_n d (q : Int)
     have em : m + 4 = 4 * (d.n + 1) := by have := HM.out; omega
     have O5 := OWN7.out
     simp only [Int.toNat_natCast, show (4 * (d.n : Int)).toNat = 4 * d.n by omega, show (4 * (d.n : Int) + 1).toNat = 4 * d.n + 1 by omega, show (4 * (d.n : Int) + 2).toNat = 4 * d.n + 2 by omega, show (4 * (d.n : Int) + 3).toNat = 4 * d.n + 3 by omega] at O5
     refine ⟨fun h => absurd HC.out h, fun _ => ⟨some ⟨g1, 0, none⟩, some ⟨g2, 0, none⟩, c1, c2, ?_, ?_, ?_⟩, ?_⟩
     ·rw [en, em]
      unfold crl Mv.v
      simp only [if_neg (show ¬ ((q : Int) < 0) by omega)]
     ·rw [en]
      refine own_intsT (base := w1.heap.size + 1) (e := 3) (c := c1) ?_
      (iterate 8 refine own_set ?_ (by omega))
      have := S7.out
      simp at this
      simpa [crl] using this
     ·rw [en, ← em]
      refine OwnN.intsT (base := w1.heap.size) (c := c2) ?_
      unfold OwnN
      (iterate 8 refine own_set ?_ (by omega))
      unfold OwnN at O5
      unfold crl kI0 kI1 kO0 kO1
      simp only [if_neg (show ¬ ((q : Int) < 0) by omega), Int.toNat_natCast]
      first
       | exact O5
       | (simp; exact O5)
       | (simp at O5 ⊢; exact O5)
     ·exact ((((((((b7.setCell (by simp; omega) _).setCell (by simp; omega) _).setCell (by simp; omega) _).setCell (by simp; omega) _).setCell (by simp; omega) _).setCell (by simp; omega) _).setCell (by simp; omega) _).setCell (by simp; omega) _)
 ·have t1 : (curlableC d x != 0) = true := by rw [bne_iff_ne]; exact hC
  go_wp2
  refine bodyPost_ret (v := .tuple #[nilD, nilM, .int .i64 (curlableC d x)]) ?_ rfl ?_
  rotate_left 1
  ·refine ⟨fun _ => (show ResErr _ _ from rfl), fun h => absurd h hC, ?_⟩
   exact (((((((b1.setCell (by simp; omega) _).setCell (by simp; omega) _).setCell (by simp; omega) _).setCell (by simp; omega) _).setCell (by simp; omega) _).setCell (by simp; omega) _).setCell (by simp; omega) _).setCell (by simp; omega) _
  ·obtain ⟨e0, e1, e2, e3, e4, e5, e6, e7⟩ := fin8 Y2.out Y3.out rfl rfl (by omega) (.slice none 0 0) (.slice none 0 0) (.int .i64 0) (.int .i64 0) (.int .i64 0) (.int .i64 0) (.int .i64 0) (.bool false)
   unfold nilD nilM
   simp [results, Tryz.results46, go_sem, e0, e1, e2, e3, e4, e5, e6, e7]
end Go.Proofs.YtlffopdoeobgaaaGreatDoor
end
