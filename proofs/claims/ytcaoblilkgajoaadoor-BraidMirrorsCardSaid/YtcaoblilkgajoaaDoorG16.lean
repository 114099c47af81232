/-
 The texts Xn, By, Bz, Bza, Uc, Fcl, Ud, Bze, Bzf, Bzg, Bzi, Bzj, Bzk, Bzl in one.
-/
import Derived.Test.YtcaoblilkgajoaaDoorG15
import Derived.Test.YtcaoblilkgajoaaDoorG03
import Derived.ChangeSlices
import Derived.Deep.Strs
import Derived.Test.YtcaoblilkgajoaaDoorG12
import Derived.RangeFuncNested
import Derived.RangeFuncBound
import Derived.RangeFuncCalls
import Derived.RangeFuncLeaves
import Derived.RangeFuncBox
import Derived.Shelf.Abstract
import Derived.Shelf.RegionOpen
import Derived.WalkKit
import Derived.OwnWalkIn
import Derived.TacticsInMore
import Derived.LoopNIn
import Derived.LoopIn
import Derived.RangeFuncFrom
import Derived.Test.YtcaoblilkgajoaaDoorG04
import Derived.Test.YtcaoblilkgajoaaDoorG00
import Derived.Test.YtcaoblilkgajoaaDoorG08
import Derived.Test.YtcaoblilkgajoaaDoorG07
import Derived.Test.YtcaoblilkgajoaaDoorG09
import Derived.Deep.RegionHeld3
import Derived.Deep.DrawnRows
import Derived.Test.YtcaoblilkgajoaaDoorG13
import Derived.Test.YtcaoblilkgajoaaDoorG02
import Derived.Deep.DeepCutAuto
import Derived.Test.YtcaoblilkgajoaaDoorG14
import Derived.Deep.RegionHeldLaw
import Derived.StillTailTactics
set_option linter.unusedVariables false
set_option linter.unusedSimpArgs false
section
namespace Go.Proofs.YtcaoblilkgajoaaDoor
open Go Go.ChangeShapes Go.WideShapes Go.ChangeAt Go.RowKit Go.Deep
theorem spot_noneM {w : World} {a : Addr} {v : Value} (h : w.cell? a = some v) : a = ⟨a.block, a.off, none⟩ := by
 obtain ⟨b, o, sp⟩ := a
 cases sp with
 | none => rfl
 | some s =>
   unfold World.cell? at h
   simp only at h
   split at h
   ·simp at h
   ·cases h
theorem addr_formM {w : World} {a : Addr} {v : Value} (h : w.cell? (a.add 0) = some v) : ∃ b o, a = ⟨b, o, none⟩ := ⟨_, _, spot_noneM h⟩
section
variable {H : Type} {enc : TypeId × Value → H} {w : World} {base : Nat} {spare : Nat → Bool} {held : Bool} {fuel : Nat}
theorem ints_of_trod {v : Value} {y : DataW H × List MemPlace} (h : DataW.trod enc Tryd.prog w base spare held fuel 22 [v] = some y) : ∃ (A : Option Addr) (n c : Nat) (xs : List Int), v = .slice A n c ∧ n ≤ maxLen ∧ IntsAt w A n xs := by
 rcases open_ints Tryd.underlying22 Tryd.underlying3 (by kernel_rfl) h with ⟨h1, _⟩ | ⟨a, len, cap, zs, h1, _, hl, hm, hsl, _, hc, _⟩
 ·obtain rfl : v = .slice none 0 0 := by simpa using h1
  exact ⟨none, 0, 0, [], rfl, by unfold maxLen; omega, RowAt.nil w⟩
 ·obtain rfl : v = .slice (some a) len cap := by simpa using h1
  have hle : len ≤ zs.length := by rw [hsl]; split <;> omega
  refine ⟨some a, len, cap, zs.take len, rfl, by omega, by simp; omega, fun hn => ?_⟩
  obtain ⟨b, o, rfl⟩ := addr_formM (hc 0 (by omega))
  refine ⟨b, o, rfl, fun j u hu => ?_⟩
  rw [List.getElem?_map] at hu
  obtain ⟨s, hs, rfl⟩ := Option.map_eq_some_iff.1 hu
  have hj : j < len := by
   rcases Nat.lt_or_ge j len with h | h
   ·exact h
   ·rw [List.getElem?_eq_none (by simp; omega)] at hs; cases hs
  have := hc j (by omega)
  rw [Addr.add_lit] at this
  rw [this]
  rw [List.getElem?_take_of_lt hj] at hs
  rw [List.getD_eq_getElem?_getD, hs]
  rfl
theorem int_of_trod {v : Value} {y : DataW H × List MemPlace} (h : DataW.trod enc Tryd.prog w base spare held fuel 3 [v] = some y) : ∃ n : Int, v = .int .i64 n ∧ -9223372036854775808 ≤ n ∧ n ≤ 9223372036854775807 := by
 obtain ⟨n, h1, _, hw⟩ := DataW.trod_int Tryd.underlying3 h
 obtain rfl : v = .int .i64 n := by simpa using h1
 refine ⟨n, rfl, ?_⟩
 simp only [Lit.wf, Bool.and_eq_true, decide_eq_true_eq] at hw
 have h1 : (IntKind.i64.min : Int) = -9223372036854775808 := by rfl
 have h2 : (IntKind.i64.max : Int) = 9223372036854775807 := by rfl
 rw [h1, h2] at hw
 exact hw
end
end Go.Proofs.YtcaoblilkgajoaaDoor
end
section
namespace Go.Proofs.YtcaoblilkgajoaaDoor
open Go Go.ChangeShapes Go.WideShapes Go.ChangeAt Go.RowKit Go.Deep
section
variable {H : Type} {enc : TypeId × Value → H} {w : World} {base : Nat} {spare : Nat → Bool} {held : Bool} {fuel : Nat}
set_option maxRecDepth 100000 in
theorem open_br {r : Reach} {b0 : Nat} {v : Value} {d : DataW H} {p : List MemPlace} (hval : Value.okWide Tryd.prog w r b0 24 v) (h : DataW.Trod enc Tryd.prog w base spare held 24 v d p) :
 ∃ (s : Int) (A : Option Addr) (n c : Nat) (ws : List Int), v = .agg #[.int .i64 s, .slice A n c] ∧ n ≤ maxLen ∧ IntsAt w A n ws ∧ -9223372036854775808 ≤ s ∧ s ≤ 9223372036854775807 := by
 obtain ⟨cs, rfl, hsz⟩ := okWide_struct Tryd.underlying24 hval
 obtain ⟨fuel, hf⟩ := h
 obtain ⟨c0, c1, rfl⟩ : ∃ c0 c1, cs = #[c0, c1] := by
  have h3 : cs.size = 2 := hsz.trans (by kernel_rfl)
  obtain ⟨l⟩ := cs
  match l, h3 with
  | [a, b], _ => exact ⟨a, b, rfl⟩
 have hf' : DataW.trod enc Tryd.prog w base spare held fuel 24 [c0, c1] = some (d, p) := hf
 obtain ⟨xs, n', _, _, _, hxl, hfld⟩ := DataW.trod_struct Tryd.underlying24 hf'
 have c22 : Tryd.prog.cellsOf 22 = 1 := by kernel_rfl
 have c3 : Tryd.prog.cellsOf 3 = 1 := by kernel_rfl
 have g0 : DataW.trod enc Tryd.prog w base spare held n' 3 (([c0, c1].drop 0).take (Tryd.prog.cellsOf 3)) = xs[0]? := hfld 0 _ rfl
 have g1 : DataW.trod enc Tryd.prog w base spare held n' 22 (([c0, c1].drop 1).take (Tryd.prog.cellsOf 22)) = xs[1]? := hfld 1 _ rfl
 rw [c22] at g1
 rw [c3] at g0
 simp only [List.drop_zero, List.drop_succ_cons, List.take_succ_cons, List.take_zero] at g0 g1
 have x0 : xs[0]? = some (xs[0]'(by rw [hxl]; decide)) := List.getElem?_eq_getElem _
 have x1 : xs[1]? = some (xs[1]'(by rw [hxl]; decide)) := List.getElem?_eq_getElem _
 rw [x0] at g0
 rw [x1] at g1
 obtain ⟨s, rfl, h1, h2⟩ := int_of_trod g0
 obtain ⟨A, n, c, ws, rfl, hn, hs⟩ := ints_of_trod g1
 exact ⟨s, A, n, c, ws, rfl, hn, hs, h1, h2⟩
end
end Go.Proofs.YtcaoblilkgajoaaDoor
end
section
namespace Go.Proofs.YtcaoblilkgajoaaDoor
open Go Go.RowKit Go.Shelf Go.Proofs
attribute [local go_sem] Oper.semAt_some
/-- The slice's box and the slice's row lie as they lay. -/
def KpB (bS b : Nat) (W1 W2 : World) : Prop := W2.heap[bS]? = W1.heap[bS]? ∧ W2.heap[b]? = W1.heap[b]?
theorem KpB.t {bS b : Nat} {A B C : World} (h : KpB bS b A B) (k : KpB bS b B C) : KpB bS b A C := ⟨k.1.trans h.1, k.2.trans h.2⟩
theorem KpB.refl (bS b : Nat) (W : World) : KpB bS b W W := ⟨rfl, rfl⟩
theorem KpB.b {bS b : Nat} {w : World} (h1 : bS < w.heap.size) (h2 : b < w.heap.size) (W : World) (l : Nat) (o o' : Obj) (hl : w.heap.size ≤ l) (_ : W.heap[l]? = some o) (_ : o.isCells = false) (_ : o.isWalk = false) : KpB bS b W (W.putObj l o') :=
 ⟨World.putObj_heap_other (by omega), World.putObj_heap_other (by omega)⟩
theorem KpB.cell {bS b : Nat} {A B : World} (h : KpB bS b A B) (o : Nat) : B.cell? ⟨bS, o, none⟩ = A.cell? ⟨bS, o, none⟩ ∧ B.cell? ⟨b, o, none⟩ = A.cell? ⟨b, o, none⟩ := by
 constructor
 ·unfold World.cell?
  simp only [h.1]
 ·unfold World.cell?
  simp only [h.2]
end Go.Proofs.YtcaoblilkgajoaaDoor
end
section
namespace Go.Proofs.YtcaoblilkgajoaaDoor
open Go Go.RowKit
attribute [local go_sem ↓] Go.wp_at_zero Go.wp_at_succ
section
variable {s : Int} {ws : List Int} {t : Int} {pl : List Nat} {zi zr : List Int} {ex : Int}
end
/-- A row of two cells, step by step. -/
theorem Row2.new {W : World} {g : Nat} {t : TypeId} {a b : Value} (h : W.heap.size = g) : Row (W.alloc (.cells #[a, b] t)) g t [a, b] := row_at h.symm
theorem Row2.s0 {W : World} {g : Nat} {t : TypeId} {a b v : Value} (h : Row W g t [a, b]) : Row (W.setCell ⟨g, 0, none⟩ v) g t [v, b] := h.set 0 v
theorem Row2.s1 {W : World} {g : Nat} {t : TypeId} {a b v : Value} (h : Row W g t [a, b]) : Row (W.setCell ⟨g, 1, none⟩ v) g t [a, v] := h.set 1 v
theorem Row2.far {W : World} {g k o : Nat} {t : TypeId} {vs : List Value} {v : Value} (h : Row W g t vs) (hne : g ≠ k) : Row (W.setCell ⟨k, o, none⟩ v) g t vs := h.other (a := ⟨k, o, none⟩) hne v
theorem RowT.alloc {w : World} {t : TypeId} {A : Option Addr} {n : Nat} {xs : List Value} (h : RowT w t A n xs) (o : Obj) : RowT (w.alloc o) t A n xs := h.keep ((Below.refl _ _).alloc (Nat.le_refl _) _)
/-- The state behind the three calls. -/
structure B5 (w2 : World) (gx g4 g5 : Nat) (s : Int) (A : Option Addr) (n c : Nat) (t : Int) (Ap : Option Addr) (pl : List Nat) (Ai : Option Addr) (ci : Nat) (zi : List Int) (Ar : Option Addr) (cr : Nat) (zr : List Int) (W : World) : Prop where
 x : Row W gx 24 [.int .i64 s, .slice A n c]
 r4 : Row W g4 24 [.int .i64 t, .slice Ai zi.length ci]
 r5 : Row W g5 24 [.int .i64 t, .slice Ar zr.length cr]
 p : RowT W 3 Ap pl.length ((nats pl).map (.int .i64))
 i : RowT W 3 Ai zi.length (zi.map (.int .i64))
 r : RowT W 3 Ar zr.length (zr.map (.int .i64))
 bel : Below w2.heap.size w2 W
theorem B5.below {w2 W W' : World} {gx g4 g5 : Nat} {s : Int} {A : Option Addr} {n c : Nat} {t : Int} {Ap : Option Addr} {pl : List Nat} {Ai : Option Addr} {ci : Nat} {zi : List Int} {Ar : Option Addr} {cr : Nat} {zr : List Int}
 (h : B5 w2 gx g4 g5 s A n c t Ap pl Ai ci zi Ar cr zr W) (hb : Below W.heap.size W W') : B5 w2 gx g4 g5 s A n c t Ap pl Ai ci zi Ar cr zr W' :=
 ⟨h.x.below hb, h.r4.below hb, h.r5.below hb, h.p.keep hb, h.i.keep hb, h.r.keep hb, h.bel.trans (hb.mono h.bel.size)⟩
end Go.Proofs.YtcaoblilkgajoaaDoor
end
section
namespace Go.Proofs.YtcaoblilkgajoaaDoor
open Go Go.RowKit
/-- A test by a function value, in every world that has grown out of w. -/
def Asks (k : Nat) (c : Value) (N : Nat) (f : Nat → Bool) (w : World) : Prop := ∀ w' h, Below w.heap.size w w' → h < N → Calls Tryd.prog k #[.int .i64 (h : Int), c] w' fun e w'' => e = .returned (.bool (f h)) ∧ Below w'.heap.size w' w''
theorem Asks.keep {k : Nat} {c : Value} {N : Nat} {f : Nat → Bool} {w W : World} (h : Asks k c N f w) (hb : Below w.heap.size w W) : Asks k c N f W :=
 fun w' x hb' hx => h w' x (hb.trans (hb'.mono hb.size)) hx
end Go.Proofs.YtcaoblilkgajoaaDoor
end
section
namespace Go.Proofs.YtcaoblilkgajoaaDoor.Pl
variable {N : Nat} {S : Nat → Prop} {f : Nat → Nat}
open Classical in
/-- The number of the cycle that holds x. -/
noncomputable def fcI (fs : List (List Nat)) (x : Nat) : Nat := if h : ∃ (i : Nat), ∃ (l : List Nat), fs[i]? = some l ∧ x ∈ l then h.choose else 0
theorem fcI_is {W : Nat → Prop} {fs : List (List Nat)} {bs : List Bool} (h : Fcs f W N N fs bs) {i x : Nat} {l : List Nat} (e : fs[i]? = some l) (hx : x ∈ l) : fcI fs x = i := by
 have hh : ∃ (i : Nat), ∃ (l : List Nat), fs[i]? = some l ∧ x ∈ l := ⟨i, l, e, hx⟩
 unfold fcI
 rw [dif_pos hh]
 obtain ⟨m, e2, h2⟩ := hh.choose_spec
 exact h.one _ _ m l x e2 e h2 hx
theorem Fcs.cls {W : Nat → Prop} (hb : Bij N S f) (hS : ∀ x, x < N → S x) {fs : List (List Nat)} {bs : List Bool} (h : Fcs f W N N fs bs) : Cls (fun x => x < N ∧ W x) (Orb f) fs.length := by
 have hin : ∀ x, x < N ∧ W x → ∃ (i : Nat) (l : List Nat), fs[i]? = some l ∧ x ∈ l := by
  intro x hx
  obtain ⟨l, h1, h2⟩ := (h.seen x hx.1).1 (h.all x hx.1 hx.2)
  obtain ⟨i, hi⟩ := List.getElem?_of_mem h1
  exact ⟨i, l, hi, h2⟩
 refine ⟨fcI fs, fun x hx => ?_, fun x y hx hy => ?_, fun i hi => ?_⟩
 ·obtain ⟨i, l, e, hm⟩ := hin x hx
  rw [fcI_is h e hm]
  exact (List.getElem?_eq_some_iff.1 e).1
 ·obtain ⟨i, l, e, hm⟩ := hin x hx
  obtain ⟨j, m, e2, hm2⟩ := hin y hy
  rw [fcI_is h e hm, fcI_is h e2 hm2]
  obtain ⟨a, p, a1, a2, a3, rfl⟩ := h.is l (List.mem_of_getElem? e)
  have ox := (mem_cyc a3).1 hm
  constructor
  ·intro ee
   subst ee
   rw [e] at e2
   injection e2 with e2
   subst e2
   have oy := (mem_cyc a3).1 hm2
   exact (hb.symm (hS a a1) ox).trans oy
  ·intro ee
   exact h.one i j _ m y e e2 ((mem_cyc a3).2 (ox.trans ee)) hm2
 ·have e : fs[i]? = some fs[i] := List.getElem?_eq_getElem hi
  obtain ⟨a, p, a1, a2, a3, e2⟩ := h.is fs[i] (List.mem_of_getElem? e)
  refine ⟨a, ⟨a1, a2⟩, fcI_is h e ?_⟩
  rw [e2]
  exact (mem_cyc a3).2 (Orb.refl _ _)
end Go.Proofs.YtcaoblilkgajoaaDoor.Pl
end
section
namespace Go.Proofs.YtcaoblilkgajoaaDoor
open Go Go.RowKit
structure CyS (w : World) (o : Nat → Bool) (N : Nat) (f : Nat → Nat) (k : Nat) (fs : List (List Nat)) (bs : List Bool) (vs : List Value) (vA : Value) (W : World) : Prop where
 fc : Pl.Fcs f (fun h => o h = true) N k fs bs
 few : fs.length ≤ k
 seen : BRow W w.heap.size bs
 own : W.ownsRow (w.heap.size + 1) 22 1 vA fs.length vs
 fa : Vs W vs fs
 bel : Below w.heap.size w W
 far : Far w.heap.size vs
theorem CyS.below {w : World} {o : Nat → Bool} {N : Nat} {f : Nat → Nat} {k : Nat} {fs : List (List Nat)} {bs : List Bool} {vs : List Value} {vA : Value} {W W' : World} (h : CyS w o N f k fs bs vs vA W) (hb : Below W.heap.size W W') : CyS w o N f k fs bs vs vA W' :=
 ⟨h.fc, h.few, Row.below h.seen hb, own_keep h.own hb (Nat.le_refl _), h.fa.below hb, h.bel.trans (hb.mono h.bel.size), h.far⟩
end Go.Proofs.YtcaoblilkgajoaaDoor
end
section
namespace Go.Proofs.YtcaoblilkgajoaaDoor
open Go Go.RowKit
attribute [local go_sem ↓] Go.wp_at_zero Go.wp_at_succ
/-- Slices as long as the cycles. -/
def LnV (vs : List Value) (fs : List (List Nat)) : Prop := ∀ (i : Nat) (l : List Nat), fs[i]? = some l → ∃ (A : Option Addr) (c : Nat), vs[i]? = some (Value.slice A l.length c)
theorem LnV.nil : LnV [] [] := fun i l h => by simp at h
theorem LnV.add {vs : List Value} {fs : List (List Nat)} (h : LnV vs fs) (hl : vs.length = fs.length) {l : List Nat} {A : Option Addr} {c m : Nat} (hm : m = l.length) : LnV (vs ++ [.slice A m c]) (fs ++ [l]) := by
 subst hm
 intro i k e
 rw [List.getElem?_append] at e
 by_cases hi : i < fs.length
 ·rw [if_pos hi] at e
  obtain ⟨B, d, h1⟩ := h i k e
  exact ⟨B, d, by rw [List.getElem?_append, if_pos (by rw [hl]; exact hi)]; exact h1⟩
 ·rw [if_neg hi] at e
  have hz : i - fs.length = 0 := by
   have := (List.getElem?_eq_some_iff.1 e).1
   simp only [List.length_singleton] at this
   omega
  rw [hz] at e
  injection e with e
  subst e
  exact ⟨A, c, by rw [List.getElem?_append, if_neg (by rw [hl]; exact hi), hl, hz]; rfl⟩
end Go.Proofs.YtcaoblilkgajoaaDoor
end
section
namespace Go.Proofs.YtcaoblilkgajoaaDoor
open Go Go.RowKit
attribute [local go_sem ↓] Go.wp_at_zero Go.wp_at_succ
/-- The boxes of Mul. -/
structure MuS (w : World) (s t : Int) (A B : Option Addr) (n m c d : Nat) (W : World) : Prop where
 a : Row W w.heap.size 24 [.int .i64 s, .slice A n c]
 b : Row W (w.heap.size + 1) 24 [.int .i64 t, .slice B m d]
 r : Row W (w.heap.size + 1 + 1) 24 [.int .i64 0, .slice none 0 0]
 bel : Below w.heap.size w W
section
variable {w W W' : World} {s t : Int} {A B : Option Addr} {n m c d : Nat}
theorem MuS.below (h : MuS w s t A B n m c d W) (hb : Below W.heap.size W W') : MuS w s t A B n m c d W' := ⟨h.a.below hb, h.b.below hb, h.r.below hb, h.bel.trans (hb.mono h.bel.size)⟩
/-- The same, the result's box with anything in it. -/
structure MuT (w : World) (s t : Int) (A B : Option Addr) (n m c d : Nat) (W : World) : Prop where
 a : Row W w.heap.size 24 [.int .i64 s, .slice A n c]
 b : Row W (w.heap.size + 1) 24 [.int .i64 t, .slice B m d]
 r : ∃ u v, Row W (w.heap.size + 1 + 1) 24 [u, v]
 bel : Below w.heap.size w W
theorem MuT.below (h : MuT w s t A B n m c d W) (hb : Below W.heap.size W W') : MuT w s t A B n m c d W' := ⟨h.a.below hb, h.b.below hb, let ⟨u, v, r⟩ := h.r; ⟨u, v, r.below hb⟩, h.bel.trans (hb.mono h.bel.size)⟩
theorem MuT.drew (h : MuT w s t A B n m c d W) : MuT w s t A B n m c d W.drew := h.below (Below.refl _ _).drew
theorem MuT.alloc (h : MuT w s t A B n m c d W) (o : Obj) : MuT w s t A B n m c d (W.alloc o) := h.below ((Below.refl _ _).alloc (Nat.le_refl _) o)
theorem MuT.all (h : MuT w s t A B n m c d W) : W.cell? ⟨w.heap.size, 0, none⟩ = some (.int .i64 s) ∧ W.cell? ⟨w.heap.size, 1, none⟩ = some (.slice A n c) ∧ W.cell? ⟨w.heap.size + 1, 1, none⟩ = some (.slice B m d) ∧ W.cell? ⟨w.heap.size + 1 + 1, 0, none⟩ = some (cv W ⟨w.heap.size + 1 + 1, 0, none⟩) ∧ W.cell? ⟨w.heap.size + 1 + 1, 1, none⟩ = some (cv W ⟨w.heap.size + 1 + 1, 1, none⟩) ∧ (∀ o, W.frozen? ⟨w.heap.size + 1 + 1, o, none⟩ = false) ∧ MuT w s t A B n m c d W :=
 let ⟨_, _, r⟩ := h.r
 ⟨(box2b h.a).1, (box2b h.a).2.1, (box2b h.b).2.1, cv_some (box2b r).1, cv_some (box2b r).2.1, (box2b r).2.2, h⟩
theorem MuS.drew (h : MuS w s t A B n m c d W) : MuS w s t A B n m c d W.drew := h.below (Below.refl _ _).drew
theorem MuS.start (w : World) (s t : Int) (A B : Option Addr) (n m c d : Nat) : MuS w s t A B n m c d (((w.alloc (.cells #[.int .i64 s, .slice A n c] 24)).alloc (.cells #[.int .i64 t, .slice B m d] 24)).alloc (.cells #[.int .i64 0, .slice none 0 0] 24)) := by
 have h0 := row_at (W := w) (g := w.heap.size) (t := 24) (vs := [.int .i64 s, .slice A n c]) rfl
 have h1 := row_at (W := w.alloc (.cells #[.int .i64 s, .slice A n c] 24)) (g := w.heap.size + 1) (t := 24) (vs := [.int .i64 t, .slice B m d]) (by simp)
 have h2 := row_at (W := (w.alloc (.cells #[.int .i64 s, .slice A n c] 24)).alloc (.cells #[.int .i64 t, .slice B m d] 24)) (g := w.heap.size + 1 + 1) (t := 24) (vs := [.int .i64 0, .slice none 0 0]) (by simp)
 exact ⟨(h0.alloc _).alloc _, h1.alloc _, h2, (((Below.refl _ _).alloc (Nat.le_refl _) _).alloc (by simp) _).alloc (by simp; omega) _⟩
end
end Go.Proofs.YtcaoblilkgajoaaDoor
end
section
namespace Go.Proofs.YtcaoblilkgajoaaDoor
open Go Go.RowKit
attribute [local go_sem ↓] Go.wp_at_zero Go.wp_at_succ
/-- Boxes of braids and lists of integers that lie in memory. -/
structure LB (w : World) (L : List (Nat × List Value)) (T : List (Option Addr × Nat × List Int)) (W : World) : Prop where
 rows : ∀ p, p ∈ L → Row W p.1 24 p.2
 ints : ∀ q, q ∈ T → IntsAt W q.1 q.2.1 q.2.2
 bel : Below w.heap.size w W
section
variable {w W W' : World} {L : List (Nat × List Value)} {T : List (Option Addr × Nat × List Int)}
theorem LB.below (h : LB w L T W) (hb : Below W.heap.size W W') : LB w L T W' := ⟨fun p hp => (h.rows p hp).below hb, fun q hq => (h.ints q hq).keep hb, h.bel.trans (hb.mono h.bel.size)⟩
theorem LB.drew (h : LB w L T W) : LB w L T W.drew := h.below (Below.refl _ _).drew
theorem LB.alloc (h : LB w L T W) (o : Obj) : LB w L T (W.alloc o) := h.below ((Below.refl _ _).alloc (Nat.le_refl _) o)
theorem LB.row (h : LB w L T W) {g : Nat} {a b : Value} (hm : (g, [a, b]) ∈ L) : W.cell? ⟨g, 0, none⟩ = some a ∧ W.cell? ⟨g, 1, none⟩ = some b ∧ ∀ o, W.frozen? ⟨g, o, none⟩ = false := box2b (h.rows _ hm)
theorem LB.int (h : LB w L T W) {A : Option Addr} {n : Nat} {xs : List Int} (hm : (A, n, xs) ∈ T) : IntsAt W A n xs := h.ints _ hm
theorem LB.addI (h : LB w L T W) {A : Option Addr} {n : Nat} {xs : List Int} (hi : IntsAt W A n xs) : LB w L ((A, n, xs) :: T) W := ⟨h.rows, fun q hq => by
 rcases List.mem_cons.1 hq with rfl | hq
 ·exact hi
 ·exact h.ints q hq, h.bel⟩
theorem LB.newR (h : LB w L T W) (x y : Value) : LB w ((W.heap.size, [x, y]) :: L) T (W.alloc (.cells #[x, y] 24)) := by
 have h2 := h.alloc (.cells #[x, y] 24)
 refine ⟨fun p hp => ?_, h2.ints, h2.bel⟩
 rcases List.mem_cons.1 hp with rfl | hp
 ·exact row_at (W := W) (g := W.heap.size) (t := 24) (vs := [x, y]) rfl
 ·exact h2.rows p hp
end
theorem LB.start (w : World) (a b c d e f : Value) (T : List (Option Addr × Nat × List Int)) (hT : ∀ q, q ∈ T → IntsAt w q.1 q.2.1 q.2.2) :
 LB w [(w.heap.size, [a, b]), (w.heap.size + 1, [c, d]), (w.heap.size + 1 + 1, [e, f])] T (((w.alloc (.cells #[a, b] 24)).alloc (.cells #[c, d] 24)).alloc (.cells #[e, f] 24)) := by
 have hb : Below w.heap.size w (((w.alloc (.cells #[a, b] 24)).alloc (.cells #[c, d] 24)).alloc (.cells #[e, f] 24)) := (((Below.refl _ _).alloc (Nat.le_refl _) _).alloc (by simp) _).alloc (by simp; omega) _
 have h0 := row_at (W := w) (g := w.heap.size) (t := 24) (vs := [a, b]) rfl
 have h1 := row_at (W := w.alloc (.cells #[a, b] 24)) (g := w.heap.size + 1) (t := 24) (vs := [c, d]) (by simp)
 have h2 := row_at (W := (w.alloc (.cells #[a, b] 24)).alloc (.cells #[c, d] 24)) (g := w.heap.size + 1 + 1) (t := 24) (vs := [e, f]) (by simp)
 refine ⟨fun p hp => ?_, fun q hq => (hT q hq).keep hb, hb⟩
 simp only [List.mem_cons, List.not_mem_nil, or_false] at hp
 rcases hp with rfl | rfl | rfl
 ·exact (h0.alloc _).alloc _
 ·exact h1.alloc _
 ·exact h2
/-- What has come since: in new blocks alone. -/
structure KB (W0 W : World) : Prop where
 bel : Below W0.heap.size W0 W
theorem KB.refl (W : World) : KB W W := ⟨Below.refl _ _⟩
section
variable {W0 W W' w : World} {L : List (Nat × List Value)} {T : List (Option Addr × Nat × List Int)}
theorem KB.drew (h : KB W0 W) : KB W0 W.drew := ⟨h.bel.drew⟩
theorem KB.alloc (h : KB W0 W) (o : Obj) : KB W0 (W.alloc o) := ⟨h.bel.alloc h.bel.size o⟩
theorem KB.below (h : KB W0 W) (hb : Below W.heap.size W W') : KB W0 W' := ⟨h.bel.trans (hb.mono h.bel.size)⟩
theorem KB.set {g o : Nat} {x : Value} (hg : W0.heap.size ≤ g) (h : KB W0 W) : KB W0 (W.setCell ⟨g, o, none⟩ x) := ⟨h.bel.setCell (p := ⟨g, o, none⟩) hg x⟩
theorem KB.lb (h : KB W0 W) (hL : LB w L T W0) : LB w L T W := hL.below h.bel
theorem KB.one (hL : LB w L T W0) {g : Nat} {a b : Value} (hm : (g, [a, b]) ∈ L) (h : KB W0 W) : W.cell? ⟨g, 0, none⟩ = some a ∧ W.cell? ⟨g, 1, none⟩ = some b ∧ KB W0 W := ⟨((h.lb hL).row hm).1, ((h.lb hL).row hm).2.1, h⟩
end
theorem LB.put {w W : World} {L : List (Nat × List Value)} {T : List (Option Addr × Nat × List Int)} (h : LB w L T W) {g : Nat} {x y : Value} (hr : Row W g 24 [x, y]) : LB w ((g, [x, y]) :: L) T W :=
 ⟨fun p hp => by
   rcases List.mem_cons.1 hp with rfl | hp
   ·exact hr
   ·exact h.rows p hp, h.ints, h.bel⟩
end Go.Proofs.YtcaoblilkgajoaaDoor
end
section
namespace Go.Proofs.YtcaoblilkgajoaaDoor
open Go Go.RowKit
attribute [local go_sem ↓] Go.wp_at_zero Go.wp_at_succ
theorem valid_w (d : Pl.Dg) (hd : Pl.Valid d) (A B : Option Addr) (n cp cq m lp : Nat) (w : World) (hn : n = d.n) (hl : lp = d.lp) (hm : m = 4 * d.n) (hg : DgAt w A B d) :
 Calls Tryd.prog 30 #[.agg #[.slice A n cp, .slice B m cq, .int .i64 (lp : Int)]] w fun e w' => e = .returned (.bool true) ∧ Below w.heap.size w w' := by
 subst hn hl
 exact valid_yes d hd A B cp cq m w hm hg
end Go.Proofs.YtcaoblilkgajoaaDoor
end
section
namespace Go.Proofs.YtcaoblilkgajoaaDoor
open Go Go.RowKit
attribute [local go_sem ↓] Go.wp_at_zero Go.wp_at_succ
theorem same_w (a b : Pl.Dg) (ha : Pl.Valid a) (hb : Pl.Valid b) (ha20 : a.n ≤ 20) (hb20 : b.n ≤ 20) (hI : ∃ σ, Pl.Iso a b σ) (A B C D : Option Addr) (na nb la lb cp cq m cp' cq' m' : Nat) (w : World) (h1 : na = a.n) (h2 : nb = b.n) (h3 : la = a.lp) (h4 : lb = b.lp) (hm : m = 4 * a.n) (hg : DgAt w A B a) (hm' : m' = 4 * b.n) (hg' : DgAt w C D b) :
 Calls Tryd.prog 17 #[.agg #[.slice A na cp, .slice B m cq, .int .i64 (la : Int)], .agg #[.slice C nb cp', .slice D m' cq', .int .i64 (lb : Int)]] w fun e w' => e = .returned (.bool true) ∧ Below w.heap.size w w' := by
 subst h1 h2 h3 h4
 refine (same_yes20 a b ha hb ha20 hb20 A B C D cp cq m cp' cq' m' w hm hg hm' hg').mono ?_
 rintro e w' ⟨he, hb'⟩
 exact ⟨by rw [he, Pl.vb_true hI], hb'⟩
/-- The closure of a valid word, in one form. -/
theorem closure_w {q : Nat} {ws : List Int} (hv : Pl.BV (q : Int) ws) (A : Option Addr) (n c : Nat) (w : World) (hw : IntsAt w A n ws) (hn : n ≤ 64) :
 Calls Tryd.prog 12 #[.agg #[.int .i64 (q : Int), .slice A n c]] w fun e w' => ∃ (S B : Option Addr) (c' lp m : Nat), e = .returned (.tuple #[.agg #[.slice S n c', .slice B m m, .int .i64 (lp : Int)], .int .i64 0]) ∧ n = (Pl.clD q ws).n ∧ lp = (Pl.clD q ws).lp ∧ m = 4 * (Pl.clD q ws).n ∧ DgAt w' S B (Pl.clD q ws) ∧ Below w.heap.size w w' := by
 have hl := hw.len
 refine (closure_any (q : Int) ws A n c w hw hn).mono ?_
 rintro e w' ⟨_, h, hb⟩
 obtain ⟨S, B, c', he, hD⟩ := h hv
 rw [Int.toNat_natCast, hl] at he
 rw [Int.toNat_natCast] at hD
 exact ⟨S, B, c', _, _, he, by rw [Pl.clD_n]; exact hl.symm, rfl, by rw [Pl.clD_n, hl], hD, hb⟩
theorem clD_val {q : Nat} {ws : List Int} (hv : Pl.BV (q : Int) ws) (hL : ws.length ≤ 64) : Pl.Valid (Pl.clD q ws) := by
 have hok : Pl.WOk q ws := by have := hv.wok; rwa [Int.toNat_natCast] at this
 refine Pl.clD_valid hok hL ?_
 rw [Pl.clD_lp hok]
 have h2 : ∀ k, Pl.rcL ws k ≤ k := by
  intro k
  induction k with
  | zero => exact Nat.le_refl _
  | succ k ih =>
    show Pl.rcL ws k + (if Pl.nxW ws 0 k < 0 then 1 else 0) ≤ k + 1
    split <;> omega
 have := h2 q
 have := hv.2.1
 omega
end Go.Proofs.YtcaoblilkgajoaaDoor
end
section
namespace Go.Proofs.YtcaoblilkgajoaaDoor
open Go Go.RowKit
attribute [local go_sem ↓] Go.wp_at_zero Go.wp_at_succ
theorem turn_six (h : Nat) (b : Int) (w : World) (hh : h ≤ 100000) (hb : b = -3 ∨ b = -1 ∨ b = 4 ∨ b = 2 ∨ b = 0 ∨ b = -2) :
 Calls Tryd.prog 70 #[.int .i64 (h : Int), .int .i64 b] w fun e w' => e = .returned (.int .i64 ((h / 4 * 4 : Nat) + ((h % 4 : Nat) + b + 8) % 4)) ∧ w' = w := by
 rcases hb with rfl | rfl | rfl | rfl | rfl | rfl
 all_goals
  go_enter Tryd.func70, Tryd.ntmps70
  go_wp2
  go_ret
  exact ⟨ret_int (by omega), rfl⟩
theorem chosen_any (c : Nat) (w : World) : Calls Tryd.prog 51 #[.int .i64 (c : Int)] w fun e w' => e = .returned (.bool true) ∧ w' = w := by
 go_enter Tryd.func51, Tryd.ntmps51
 go_wp2
 go_ret
 exact ⟨rfl, rfl⟩
/-- What exchange's closures hold: the choice, and the diagram. -/
structure ExB (d : Pl.Dg) (A B : Option Addr) (n cp m cq : Nat) (l : Value) (gc gd : Nat) (w : World) : Prop where
 hn : n = d.n
 f : w.cell? ⟨gc, 0, none⟩ = some (.func (.func 51) #[] #[])
 r : Row w gd 28 [.slice A n cp, .slice B m cq, l]
 s : IntsAt w A n d.sg
theorem ExB.below {d : Pl.Dg} {A B : Option Addr} {n cp m cq : Nat} {l : Value} {gc gd : Nat} {w W : World} (h : ExB d A B n cp m cq l gc gd w) (hb : Below w.heap.size w W) : ExB d A B n cp m cq l gc gd W := ⟨h.hn, cell_below h.f hb, h.r.below hb, h.s.keep hb⟩
theorem exby_any (d : Pl.Dg) (A B : Option Addr) (n cp m cq : Nat) (l : Value) (gc gd c : Nat) (x : Int) (w : World) (h : ExB d A B n cp m cq l gc gd w) (hc : c < n) (hn : n ≤ 1000) :
 Calls Tryd.prog 67 #[.int .i64 (c : Int), .int .i64 x, .pointer (some ⟨gc, 0, none⟩), .pointer (some ⟨gd, 0, none⟩)] w fun e w' => e = .returned (.int .i64 (if d.s c = 1 then -3 else -1)) ∧ w' = w := by
 have H := hide h
 have f0 := h.f
 obtain ⟨d0, d1, d2, d3⟩ := box3 h.r
 obtain ⟨b, o, rfl, cs⟩ := h.s.at_ hc
 have c0 : (0 : Int) ≤ (c : Int) := by omega
 have c1 : (c : Int) < (n : Int) := by omega
 obtain ⟨s, hs⟩ : ∃ s, s = d.s c := ⟨_, rfl⟩
 rw [show d.sg.getD c 0 = s from hs.symm] at cs
 rw [← hs]
 clear hs h
 go_enter Tryd.func67, Tryd.ntmps67
 go_wp2_with fail
 refine (chosen_any c _).mono ?_
 rintro e w1 ⟨rfl, rfl⟩
 by_cases h1 : s = 1
 ·have HE := hide (show (if s = 1 then (-3 : Int) else -1) = -3 from if_pos h1)
  have hb : (s == 1) = true := by rw [beq_iff_eq]; exact h1
  go_wp2
  go_ret
  exact ⟨by first | rfl | (rw [HE.out]; rfl), rfl⟩
 ·have HE := hide (show (if s = 1 then (-3 : Int) else -1) = -1 from if_neg h1)
  have hb : (s == 1) = false := by rw [beq_eq_false_iff_ne]; exact h1
  go_wp2
  go_ret
  exact ⟨by first | rfl | (rw [HE.out]; rfl), rfl⟩
theorem exsg_any (gc c : Nat) (w : World) (hf : w.cell? ⟨gc, 0, none⟩ = some (.func (.func 51) #[] #[])) :
 Calls Tryd.prog 68 #[.int .i64 (c : Int), .pointer (some ⟨gc, 0, none⟩)] w fun e w' => e = .returned (.int .i64 (-1)) ∧ w' = w := by
 go_enter Tryd.func68, Tryd.ntmps68
 go_wp2_with fail
 refine (chosen_any c _).mono ?_
 rintro e w1 ⟨rfl, rfl⟩
 go_wp2
 go_ret
 exact ⟨rfl, rfl⟩
theorem rfby_any (c : Int) (x : Nat) (w : World) (hx : x < 4) :
 Calls Tryd.prog 52 #[.int .i64 c, .int .i64 (x : Int)] w fun e w' => e = .returned (.int .i64 (4 - 2 * (x : Int))) ∧ w' = w := by
 go_enter Tryd.func52, Tryd.ntmps52
 go_wp2
 go_ret
 exact ⟨ret_int (by omega), rfl⟩
theorem rfsg_any (c : Int) (w : World) :
 Calls Tryd.prog 54 #[.int .i64 c] w fun e w' => e = .returned (.int .i64 (-1)) ∧ w' = w := by
 go_enter Tryd.func54, Tryd.ntmps54
 go_wp2
 go_ret
 exact ⟨rfl, rfl⟩
theorem toR_eq (h : Nat) : ((h / 4 * 4 : Nat) + ((h % 4 : Nat) + (4 - 2 * ((h % 4 : Nat) : Int)) + 8) % 4 : Int) = (Pl.toR h : Nat) := by
 unfold Pl.toR
 have : h % 4 = 0 ∨ h % 4 = 1 ∨ h % 4 = 2 ∨ h % 4 = 3 := by omega
 rcases this with e | e | e | e <;> rw [e] <;> omega
theorem toM_eq (d : Pl.Dg) (h : Nat) : ((h / 4 * 4 : Nat) + ((h % 4 : Nat) + (if d.s (h / 4) = 1 then (-3 : Int) else -1) + 8) % 4 : Int) = (Pl.toM d h : Nat) := by
 unfold Pl.toM Pl.tn
 by_cases c : d.s (h / 4) = 1
 ·rw [if_pos c, if_pos c]; omega
 ·rw [if_neg c, if_neg c]; omega
set_option maxRecDepth 100000 in
set_option maxHeartbeats 2000000 in
theorem toR_any (gb h : Nat) (w : World) (hf : w.cell? ⟨gb, 0, none⟩ = some (.func (.func 52) #[] #[])) (hh : h ≤ 100000) :
 Calls Tryd.prog 69 #[.int .i64 (h : Int), .pointer (some ⟨gb, 0, none⟩)] w fun e w' => e = .returned (.int .i64 ((Pl.toR h : Nat) : Int)) ∧ w' = w := by
 have HR := hide (toR_eq h)
 obtain ⟨q, hq⟩ : ∃ q, q = h / 4 := ⟨_, rfl⟩
 obtain ⟨r, hr⟩ : ∃ r, r = h % 4 := ⟨_, rfl⟩
 have hr4 : r < 4 := by omega
 have hq1 : q ≤ 100000 := by omega
 have e1 : (h : Int).tdiv 4 = (q : Int) := by rw [Int.tdiv_eq_ediv_of_nonneg (by omega)]; omega
 have e2 : (h : Int).tmod 4 = (r : Int) := by rw [Int.tmod_eq_emod_of_nonneg (by omega)]; omega
 have HQ := hide hq
 have HRR := hide hr
 clear hq hr
 go_enter Tryd.func69, Tryd.ntmps69
 go_wp2_with fail
 refine (rfby_any (q : Int) r _ hr4).mono ?_
 rintro e w1 ⟨rfl, rfl⟩
 go_wp2_with fail
 refine (turn_six h (4 - 2 * (r : Int)) _ hh (by omega)).mono ?_
 rintro e w2 ⟨rfl, rfl⟩
 rw [HRR.out, HR.out]
 clear e1 e2
 go_wp2
 go_ret
 exact ⟨rfl, rfl⟩
set_option maxRecDepth 100000 in
set_option maxHeartbeats 2000000 in
theorem toM_any (d : Pl.Dg) (A B : Option Addr) (n cp m cq : Nat) (l : Value) (gc gd gb h : Nat) (w : World) (hf : w.cell? ⟨gb, 0, none⟩ = some (.func (.func 67) #[] #[.pointer (some ⟨gc, 0, none⟩), .pointer (some ⟨gd, 0, none⟩)])) (hE : ExB d A B n cp m cq l gc gd w) (hn : n ≤ 1000) (hh : h < 4 * n) :
 Calls Tryd.prog 69 #[.int .i64 (h : Int), .pointer (some ⟨gb, 0, none⟩)] w fun e w' => e = .returned (.int .i64 ((Pl.toM d h : Nat) : Int)) ∧ w' = w := by
 have HR := hide (toM_eq d h)
 have HE := hide hE
 obtain ⟨q, hq⟩ : ∃ q, q = h / 4 := ⟨_, rfl⟩
 obtain ⟨r, hr⟩ : ∃ r, r = h % 4 := ⟨_, rfl⟩
 have hqn : q < n := by omega
 have e1 : (h : Int).tdiv 4 = (q : Int) := by rw [Int.tdiv_eq_ediv_of_nonneg (by omega)]; omega
 have e2 : (h : Int).tmod 4 = (r : Int) := by rw [Int.tmod_eq_emod_of_nonneg (by omega)]; omega
 have HQ := hide hq
 have HRR := hide hr
 clear hq hr hE
 go_enter Tryd.func69, Tryd.ntmps69
 go_wp2_with fail
 refine (exby_any d A B n cp m cq l gc gd q (r : Int) _ HE.out hqn hn).mono ?_
 rintro e w1 ⟨rfl, rfl⟩
 obtain ⟨b, hb⟩ : ∃ b : Int, b = if d.s q = 1 then -3 else -1 := ⟨_, rfl⟩
 have hb2 : b = -3 ∨ b = -1 := by rw [hb]; split <;> simp
 rw [← hb]
 have HB := hide hb
 clear hb
 go_wp2_with fail
 refine (turn_six h b _ (by omega) (by omega)).mono ?_
 rintro e w2 ⟨rfl, rfl⟩
 have HFIN := hide (show ((h / 4 * 4 : Nat) + ((h % 4 : Nat) + b + 8) % 4 : Int) = (Pl.toM d h : Nat) by rw [HB.out, HQ.out]; exact HR.out)
 rw [HFIN.out]
 clear e1 e2 hb2
 go_wp2
 go_ret
 exact ⟨rfl, rfl⟩
end Go.Proofs.YtcaoblilkgajoaaDoor
end
section
namespace Go.Proofs.YtcaoblilkgajoaaDoor
open Go Go.RowKit
attribute [local go_sem ↓] Go.wp_at_zero Go.wp_at_succ
/-- While a diagram's half-edges are moved. -/
structure MV (w : World) (A B : Option Addr) (n cp m cq : Nat) (lp : Int) (bv : Value) (gr gS gM : Nat) (ss ts : List Int) (W : World) : Prop where
 d : Row W w.heap.size 28 [.slice A n cp, .slice B m cq, .int .i64 lp]
 b : W.cell? ⟨w.heap.size + 1, 0, none⟩ = some bv
 o : Row W (w.heap.size + 1 + 1) 28 [.slice none 0 0, .slice none 0 0, .int .i64 0]
 r : Row W gr 28 [.slice (some ⟨gS, 0, none⟩) n n, .slice (some ⟨gM, 0, none⟩) m m, .int .i64 lp]
 s : IRow W gS ss
 t : IRow W gM ts
 n1 : gr ≠ gS
 n2 : gr ≠ gM
 n3 : gS ≠ gM
 lo : w.heap.size + 1 + 1 < gr ∧ w.heap.size + 1 + 1 < gS ∧ w.heap.size + 1 + 1 < gM
 bel : Below w.heap.size w W
section
variable {w W W' : World} {A B : Option Addr} {n cp m cq : Nat} {lp : Int} {bv : Value} {gr gS gM : Nat} {ss ts : List Int}
theorem MV.drew (h : MV w A B n cp m cq lp bv gr gS gM ss ts W) : MV w A B n cp m cq lp bv gr gS gM ss ts W.drew := ⟨h.d.drew, h.b, h.o.drew, h.r.drew, Row.drew h.s, Row.drew h.t, h.n1, h.n2, h.n3, h.lo, h.bel.drew⟩
theorem cell_other {W : World} {p q : Addr} {v x : Value} (h : W.cell? p = some v) (hne : p.block ≠ q.block) : (W.setCell q x).cell? p = some v := by
 unfold World.cell? at h ⊢
 rw [Below.heap_setCell W q x p.block hne]
 exact h
theorem MV.setS (h : MV w A B n cp m cq lp bv gr gS gM ss ts W) (k : Nat) (x : Int) : MV w A B n cp m cq lp bv gr gS gM (ss.set k x) ts (W.setCell ⟨gS, k, none⟩ (.int .i64 x)) := by
 obtain ⟨l1, l2, l3⟩ := h.lo
 exact ⟨h.d.other (by show _ ≠ gS; omega) _, cell_other h.b (by show w.heap.size + 1 ≠ gS; omega), h.o.other (by show _ ≠ gS; omega) _, h.r.other (show _ ≠ gS from h.n1) _, IRow.set h.s k x, Row.other h.t (show _ ≠ gS from fun e => h.n3 e.symm) _, h.n1, h.n2, h.n3, h.lo, h.bel.setCell (by show _ ≤ gS; omega) _⟩
theorem MV.setT (h : MV w A B n cp m cq lp bv gr gS gM ss ts W) (k : Nat) (x : Int) : MV w A B n cp m cq lp bv gr gS gM ss (ts.set k x) (W.setCell ⟨gM, k, none⟩ (.int .i64 x)) := by
 obtain ⟨l1, l2, l3⟩ := h.lo
 exact ⟨h.d.other (by show _ ≠ gM; omega) _, cell_other h.b (by show w.heap.size + 1 ≠ gM; omega), h.o.other (by show _ ≠ gM; omega) _, h.r.other (show _ ≠ gM from h.n2) _, Row.other h.s (show _ ≠ gM from h.n3) _, IRow.set h.t k x, h.n1, h.n2, h.n3, h.lo, h.bel.setCell (by show _ ≤ gM; omega) _⟩
end
/-- What is kept while the new rows are made. -/
structure MB (w : World) (A B : Option Addr) (n cp m cq : Nat) (lp : Int) (bv : Value) (W : World) : Prop where
 d : Row W w.heap.size 28 [.slice A n cp, .slice B m cq, .int .i64 lp]
 b : W.cell? ⟨w.heap.size + 1, 0, none⟩ = some bv
 o : Row W (w.heap.size + 1 + 1) 28 [.slice none 0 0, .slice none 0 0, .int .i64 0]
 bel : Below w.heap.size w W
theorem MB.below {w W W' : World} {A B : Option Addr} {n cp m cq : Nat} {lp : Int} {bv : Value} (h : MB w A B n cp m cq lp bv W) (hb : Below W.heap.size W W') : MB w A B n cp m cq lp bv W' := ⟨h.d.below hb, cell_below h.b hb, h.o.below hb, h.bel.trans (hb.mono h.bel.size)⟩
theorem KB.dg {w W0 W : World} {A B : Option Addr} {n cp m cq : Nat} {lp : Int} {bv : Value} (h : MB w A B n cp m cq lp bv W0) (hk : KB W0 W) : W.cell? ⟨w.heap.size, 0, none⟩ = some (.slice A n cp) ∧ W.cell? ⟨w.heap.size, 1, none⟩ = some (.slice B m cq) ∧ W.cell? ⟨w.heap.size, 2, none⟩ = some (.int .i64 lp) ∧ KB W0 W :=
 let h' := h.below hk.bel
 ⟨(box3 h'.d).1, (box3 h'.d).2.1, (box3 h'.d).2.2.1, hk⟩
/-- The new diagram: its two rows and its box, in six orders of making. -/
theorem MV.made {w W0 W : World} {A B : Option Addr} {n cp m cq : Nat} {lp : Int} {bv : Value} {gr gS gM : Nat} (h : MB w A B n cp m cq lp bv W0) (hb : Below W0.heap.size W0 W)
 (hr : Row W gr 28 [.slice (some ⟨gS, 0, none⟩) n n, .slice (some ⟨gM, 0, none⟩) m m, .int .i64 lp]) (hs : IRow W gS (List.replicate n 0)) (ht : IRow W gM (List.replicate m 0)) (n1 : gr ≠ gS) (n2 : gr ≠ gM) (n3 : gS ≠ gM) (h1 : W0.heap.size ≤ gr) (h2 : W0.heap.size ≤ gS) (h3 : W0.heap.size ≤ gM) :
 MV w A B n cp m cq lp bv gr gS gM (List.replicate n 0) (List.replicate m 0) W := by
 have h' := h.below hb
 have := h.o.lt
 exact ⟨h'.d, h'.b, h'.o, hr, hs, ht, n1, n2, n3, ⟨by omega, by omega, by omega⟩, h'.bel⟩
end Go.Proofs.YtcaoblilkgajoaaDoor
end
