/-
 The texts We, Wf, Wg, Wb, Sph, Wc, Mk, Reg in one.
-/
import Derived.Test.YtcaoblilkgajoaaDoorG02
import Derived.Deep.RegionWith
import Derived.Deep.RegionHeld3
import Derived.Deep.DrawnRows
import Derived.StillTailTactics
import Derived.Test.YtcaoblilkgajoaaDoorG00
import Derived.Test.YtcaoblilkgajoaaDoorG01
import Derived.Deep.LoopGhost
import Derived.Deep.QuietTactic
import Derived.BigQuiet
set_option linter.unusedVariables false
set_option linter.unusedSimpArgs false
section
namespace Go.Proofs.YtcaoblilkgajoaaDoor
open Go.RowKit
attribute [local go_sem ↓] Go.wp_at_zero Go.wp_at_succ
/-- What a region keeps: the rows g (a diagram's box) and g + 1 (a box for the result), and whatever lay in w. -/
structure GS (w : World) (g : Nat) (x0 x1 x2 : Value) (W : World) : Prop where
 row : ∃ vs, Row W g 28 [x0, x1, x2] ∧ Row W (g + 1) 28 vs ∧ vs.length = 3
 bel : Below w.heap.size w W
 lo : w.heap.size ≤ g
theorem GS.drew {w : World} {g : Nat} {x0 x1 x2 : Value} {W : World} (h : GS w g x0 x1 x2 W) : GS w g x0 x1 x2 W.drew := ⟨h.row, h.bel.drew, h.lo⟩
/-- What a cell holds. -/
def cv (W : World) (a : Addr) : Value := (W.cell? a).getD (.bool false)
theorem cv_some {W : World} {a : Addr} {v : Value} (h : W.cell? a = some v) : W.cell? a = some (cv W a) := by unfold cv; rw [h]; rfl
theorem GS.alloc {w : World} {g : Nat} {x0 x1 x2 : Value} {W : World} (h : GS w g x0 x1 x2 W) (o : Obj) : GS w g x0 x1 x2 (W.alloc o) :=
 let ⟨vs, r1, r2, r3⟩ := h.row
 ⟨⟨vs, r1.alloc o, r2.alloc o, r3⟩, h.bel.alloc h.bel.size o, h.lo⟩
theorem GS.below {w : World} {g : Nat} {x0 x1 x2 : Value} {W W' : World} (h : GS w g x0 x1 x2 W) (hb : Below W.heap.size W W') : GS w g x0 x1 x2 W' :=
 let ⟨vs, r1, r2, r3⟩ := h.row
 ⟨⟨vs, r1.below hb, r2.below hb, r3⟩, h.bel.trans (hb.mono h.bel.size), h.lo⟩
theorem GS.set {w : World} {g : Nat} {x0 x1 x2 : Value} {W : World} (h : GS w g x0 x1 x2 W) (o : Nat) (v : Value) : GS w g x0 x1 x2 (W.setCell ⟨g + 1, o, none⟩ v) :=
 let ⟨vs, r1, r2, r3⟩ := h.row
 ⟨⟨vs.set o v, r1.other (by simp) v, r2.set o v, by rw [List.length_set, r3]⟩, h.bel.setCell (by have := h.lo; simp; omega) v, h.lo⟩
theorem GS.all {w : World} {g : Nat} {x0 x1 x2 : Value} {W : World} (h : GS w g x0 x1 x2 W) : W.cell? ⟨g, 0, none⟩ = some x0 ∧ W.cell? ⟨g, 1, none⟩ = some x1 ∧ W.cell? ⟨g, 2, none⟩ = some x2 ∧ W.cell? ⟨g + 1, 0, none⟩ = some (cv W ⟨g + 1, 0, none⟩) ∧ W.cell? ⟨g + 1, 1, none⟩ = some (cv W ⟨g + 1, 1, none⟩) ∧ W.cell? ⟨g + 1, 2, none⟩ = some (cv W ⟨g + 1, 2, none⟩) ∧ (∀ o, W.frozen? ⟨g + 1, o, none⟩ = false) ∧ GS w g x0 x1 x2 W := by
 obtain ⟨vs, r1, r2, r3⟩ := h.row
 exact ⟨r1.cell (i := 0) (by show 0 < 3; omega), r1.cell (i := 1) (by show 1 < 3; omega), r1.cell (i := 2) (by show 2 < 3; omega), cv_some (r2.cell (i := 0) (by omega)), cv_some (r2.cell (i := 1) (by omega)), cv_some (r2.cell (i := 2) (by omega)), fun o => r2.free o, h⟩
theorem GS.fin {w : World} {g : Nat} {x0 x1 x2 : Value} {W : World} (h : GS w g x0 x1 x2 W) (y0 y1 y2 : Value) :
 (((W.setCell ⟨g + 1, 0, none⟩ y0).setCell ⟨g + 1, 1, none⟩ y1).setCell ⟨g + 1, 2, none⟩ y2).cell? ⟨g + 1, 0, none⟩ = some y0 ∧ (((W.setCell ⟨g + 1, 0, none⟩ y0).setCell ⟨g + 1, 1, none⟩ y1).setCell ⟨g + 1, 2, none⟩ y2).cell? ⟨g + 1, 1, none⟩ = some y1 ∧ (((W.setCell ⟨g + 1, 0, none⟩ y0).setCell ⟨g + 1, 1, none⟩ y1).setCell ⟨g + 1, 2, none⟩ y2).cell? ⟨g + 1, 2, none⟩ = some y2 := by
 obtain ⟨vs, _, r2, r3⟩ := h.row
 have r := ((r2.set 0 y0).set 1 y1).set 2 y2
 obtain ⟨a, b, c, rfl⟩ : ∃ a b c, vs = [a, b, c] := by
  match vs, r3 with
  | [a, b, c], _ => exact ⟨a, b, c, rfl⟩
 exact ⟨r.cell (i := 0) (by simp), r.cell (i := 1) (by simp), r.cell (i := 2) (by simp)⟩
theorem GS.start (w : World) (x0 x1 x2 y0 y1 y2 : Value) : GS w w.heap.size x0 x1 x2 ((w.alloc (.cells #[x0, x1, x2] 28)).alloc (.cells #[y0, y1, y2] 28)) := by
 refine ⟨⟨[y0, y1, y2], Row.alloc (Row.new w _ [x0, x1, x2]) _, ?_, rfl⟩, ((Below.refl _ _).alloc (Nat.le_refl _) _).alloc (by simp) _, Nat.le_refl _⟩
 have := Row.new (w.alloc (.cells #[x0, x1, x2] 28)) 28 [y0, y1, y2]
 simpa using this
theorem IntsAt.alloc {w : World} {A : Option Addr} {n : Nat} {zs : List Int} (h : IntsAt w A n zs) (o : Obj) : IntsAt (w.alloc o) A n zs := h.keep ((Below.refl _ _).alloc (Nat.le_refl _) o)
theorem IntsAt.drew {w : World} {A : Option Addr} {n : Nat} {zs : List Int} (h : IntsAt w A n zs) : IntsAt w.drew A n zs := h
theorem made_at {w : World} {g : Nat} (h : g = w.heap.size) (n : Nat) : IntsAt (w.alloc (.cells (Array.replicate n (Value.int .i64 0)) 3)) (some ⟨g, 0, none⟩) n (List.replicate n 0) := by
 subst h
 have := (IRow.made w n).ints
 rw [List.length_replicate] at this
 exact this
theorem owns_pos {w : World} {base : Nat} {e : TypeId} {A : Option Addr} {n c : Nat} {xs : List Value} (hn : 0 < n) (h : w.ownsRow base e 1 (.slice A n c) n xs) : ∃ g, A = some ⟨g, 0, none⟩ ∧ base ≤ g ∧ g < w.heap.size := by
 rcases h.2 with ⟨_, h0⟩ | ⟨g, cap, cur, h1, h2, h3, _⟩
 ·omega
 ·injection h1 with h1
  exact ⟨g, h1, h2, lt_of_heap h3⟩
theorem own_keep {w w' : World} {base base' : Nat} {e : TypeId} {v : Value} {n : Nat} {xs : List Value} (h : w.ownsRow base e 1 v n xs) (hb : Below w.heap.size w w') (hle : base' ≤ base) : w'.ownsRow base' e 1 v n xs := by
 refine ⟨h.1, ?_⟩
 rcases h.2 with hz | ⟨g, cap, cur, r1, r2, r3, r4⟩
 ·exact .inl hz
 ·exact .inr ⟨g, cap, cur, r1, Nat.le_trans hle r2, (hb.block g (lt_of_heap r3)).trans r3, r4⟩
theorem own_set {w : World} {base : Nat} {e : TypeId} {g n c b o : Nat} {v : Value} {xs : List Value} (h : w.ownsRow base e 1 (.slice (some ⟨g, 0, none⟩) n c) n xs) (hne : g ≠ b) : (w.setCell ⟨b, o, none⟩ v).ownsRow base e 1 (.slice (some ⟨g, 0, none⟩) n c) n xs := by
 refine ⟨h.1, ?_⟩
 rcases h.2 with hz | ⟨g', cap, cur, r1, r2, r3, r4⟩
 ·exact .inl hz
 ·injection r1 with e1 e2 e3
  injection e1 with e1
  injection e1 with e1
  subst e1
  exact .inr ⟨g, cap, cur, by rw [e3], r2, (Below.heap_setCell w _ v g hne).trans r3, r4⟩
theorem nats_rep (l : List Nat) (k : Nat) : (nats l ++ List.replicate k 0).map (Value.int .i64) = (l ++ List.replicate k 0).map (fun j : Nat => Value.int .i64 j) := by
 unfold nats
 simp
end Go.Proofs.YtcaoblilkgajoaaDoor
end
section
namespace Go.Proofs.YtcaoblilkgajoaaDoor
open Go.RowKit
theorem bcell {W w1 : World} (hb : Below W.heap.size W w1) : (∀ b o, b < W.heap.size → w1.cell? ⟨b, o, none⟩ = W.cell? ⟨b, o, none⟩) ∧ (∀ b o, b < W.heap.size → w1.frozen? ⟨b, o, none⟩ = W.frozen? ⟨b, o, none⟩) :=
 ⟨fun b o h => hb.cell (p := ⟨b, o, none⟩) h, fun b o h => hb.frozen (p := ⟨b, o, none⟩) h⟩
/-- A move, as its value. -/
structure Mv where
 kind : Int
 x : Int
 y : Int
 sign : Int
 over : Bool
def Mv.v (m : Mv) : Value := .agg #[.int .i64 m.kind, .int .i64 m.x, .int .i64 m.y, .int .i64 m.sign, .bool m.over]
/-- What curlable answers. -/
def fullC (n k : Nat) : Int := if 64 < n + k then 5 else 0
def curlableC (d : Pl.Dg) (x : Int) : Int := if x < 0 then (if d.lp = 0 then 6 else fullC d.n 1) else if Pl.out d x.toNat = true then fullC d.n 1 else 6
end Go.Proofs.YtcaoblilkgajoaaDoor
end
section
namespace Go.Proofs.YtcaoblilkgajoaaDoor
open Go.RowKit
def nilD : Value := .agg #[.slice none 0 0, .slice none 0 0, .int .i64 0]
def nilM : Value := .agg #[.int .i64 0, .int .i64 0, .int .i64 0, .int .i64 0, .bool false]
/-- An error comes back. -/
def ResErr (k : Int) (e : Ending) : Prop := e = .returned (.tuple #[nilD, nilM, .int .i64 k])
/-- The two slices of a diagram, their rows' types known. -/
structure DgT (w : World) (A : Option Addr) (B : Option Addr) (d : Pl.Dg) : Prop where
 s : RowT w 3 A d.n (d.sg.map (.int .i64))
 m : RowT w 3 B (4 * d.n) ((nats d.mt).map (.int .i64))
theorem DgT.at {w : World} {A B : Option Addr} {d : Pl.Dg} (h : DgT w A B d) : DgAt w A B d := ⟨h.s.row, h.m.row⟩
theorem DgT.keep {w w' : World} {A B : Option Addr} {d : Pl.Dg} (h : DgT w A B d) (hb : Below w.heap.size w w') : DgT w' A B d := ⟨h.s.keep hb, h.m.keep hb⟩
theorem own_intsT {w : World} {base : Nat} {e : TypeId} {A : Option Addr} {n c : Nat} {zs : List Int} (h : w.ownsRow base e 1 (.slice A n c) n (zs.map (.int .i64))) : RowT w e A n (zs.map (.int .i64)) := by
 have hl := h.1
 refine ⟨by simpa using hl, fun hn => ?_⟩
 rcases h.2 with ⟨_, h2⟩ | ⟨g, cap, cur, h1, _, h3, _, _, _, h7⟩
 ·omega
 ·injection h1 with h1 _ _
  refine ⟨g, 0, cur, (0, 0), h1, h3, fun j u hu => ?_⟩
  rw [Nat.zero_add, ← Array.getElem?_toList]
  have h9 := hu
  rw [← h7, List.getElem?_take] at h9
  split at h9
  ·exact h9
  ·exact absurd h9 (by simp)
theorem OwnN.intsT {w : World} {base g n c : Nat} {l : List Nat} (h : OwnN w base g n c l) : RowT w 3 (some ⟨g, 0, none⟩) n ((nats l).map (.int .i64)) := by
 refine own_intsT (base := base) (e := 3) (c := c) ?_
 unfold OwnN at h
 unfold nats
 rw [List.map_map]
 exact h
/-- A diagram and a move come back. -/
def ResOk (r : Pl.Dg) (mv : Mv) (e : Ending) (w' : World) : Prop :=
 ∃ (A B : Option Addr) (c1 c2 : Nat), e = .returned (.tuple #[.agg #[.slice A r.n c1, .slice B (4 * r.n) c2, .int .i64 r.lp], mv.v, .int .i64 0]) ∧ DgT w' A B r
theorem box3 {W : World} {g : Nat} {t : TypeId} {a b c : Value} (h : Row W g t [a, b, c]) : W.cell? ⟨g, 0, none⟩ = some a ∧ W.cell? ⟨g, 1, none⟩ = some b ∧ W.cell? ⟨g, 2, none⟩ = some c ∧ ∀ o, W.frozen? ⟨g, o, none⟩ = false :=
 ⟨h.cell (i := 0) (by simp), h.cell (i := 1) (by simp), h.cell (i := 2) (by simp), h.free⟩
theorem box5 {W : World} {g : Nat} {t : TypeId} {a b c d e : Value} (h : Row W g t [a, b, c, d, e]) : W.cell? ⟨g, 0, none⟩ = some a ∧ W.cell? ⟨g, 1, none⟩ = some b ∧ W.cell? ⟨g, 2, none⟩ = some c ∧ W.cell? ⟨g, 3, none⟩ = some d ∧ W.cell? ⟨g, 4, none⟩ = some e ∧ ∀ o, W.frozen? ⟨g, o, none⟩ = false :=
 ⟨h.cell (i := 0) (by simp), h.cell (i := 1) (by simp), h.cell (i := 2) (by simp), h.cell (i := 3) (by simp), h.cell (i := 4) (by simp), h.free⟩
theorem own_grown {w w' : World} {base : Nat} {e : TypeId} {g g' n c : Nat} {xs : List Value} (h : w.ownsRow base e 1 (.slice (some ⟨g, 0, none⟩) n c) n xs) (hg : w.grownBy w' (some g')) (hne : g ≠ g') : w'.ownsRow base e 1 (.slice (some ⟨g, 0, none⟩) n c) n xs := by
 refine ⟨h.1, ?_⟩
 rcases h.2 with hz | ⟨k, cap, cur, r1, r2, r3, r4⟩
 ·exact .inl hz
 ·injection r1 with e1 e2 e3
  injection e1 with e1
  injection e1 with e1
  subst e1
  subst e3
  exact .inr ⟨g, c, cur, rfl, r2, (hg.block g (lt_of_heap r3) (by intro h; injection h; omega)).trans r3, r4⟩
theorem own_ints {w : World} {base : Nat} {e : TypeId} {g n c : Nat} {zs : List Int} (h : w.ownsRow base e 1 (.slice (some ⟨g, 0, none⟩) n c) n (zs.map (.int .i64))) : IntsAt w (some ⟨g, 0, none⟩) n zs := by
 have hl := h.1
 refine ⟨by simpa using hl, fun _ => ⟨g, 0, rfl, fun j u hu => ?_⟩⟩
 rw [Nat.zero_add]
 have hj : j < n := by
  have := (List.getElem?_eq_some_iff.mp hu).1
  simp at this hl
  omega
 rw [World.ownsRow.cellAt h j (by simpa using hj)]
 exact hu
theorem OwnN.ints {w : World} {base g n c : Nat} {l : List Nat} (h : OwnN w base g n c l) : IntsAt w (some ⟨g, 0, none⟩) n (nats l) := by
 refine own_ints (base := base) (e := 3) (c := c) ?_
 unfold OwnN at h
 unfold nats
 rw [List.map_map]
 exact h
theorem Row.drew' {w W : World} {g : Nat} {t : TypeId} {vs : List Value} (e : W = w.drew) (h : Row w g t vs) : Row W g t vs := e ▸ h
theorem own_drew {w W : World} {base : Nat} {t : TypeId} {v : Value} {n : Nat} {xs : List Value} (e : W = w.drew) (h : w.ownsRow base t 1 v n xs) : W.ownsRow base t 1 v n xs := by subst e; exact h
theorem OwnN.drew' {w W : World} {base g n c : Nat} {l : List Nat} (e : W = w.drew) (h : OwnN w base g n c l) : OwnN W base g n c l := by subst e; exact h
/-- The half-edges of the kink. -/
def kI0 (n : Nat) (sg : Int) (ov : Bool) : Nat := if ov then (if sg = -1 then 4 * n + 1 else 4 * n + 3) else 4 * n
def kO0 (n : Nat) (sg : Int) (ov : Bool) : Nat := if ov then (if sg = -1 then 4 * n + 3 else 4 * n + 1) else 4 * n + 2
def kI1 (n : Nat) (sg : Int) (ov : Bool) : Nat := if ov then 4 * n else (if sg = -1 then 4 * n + 1 else 4 * n + 3)
def kO1 (n : Nat) (sg : Int) (ov : Bool) : Nat := if ov then 4 * n + 2 else (if sg = -1 then 4 * n + 3 else 4 * n + 1)
/-- The diagram with a kink. -/
def crl (d : Pl.Dg) (x sg : Int) (ov : Bool) : Pl.Dg where
 sg := d.sg ++ [sg]
 mt := if x < 0 then jn (jn (d.mt ++ List.replicate 4 0) (kO0 d.n sg ov) (kI1 d.n sg ov)) (kO1 d.n sg ov) (kI0 d.n sg ov) else jn (jn (jn (d.mt ++ List.replicate 4 0) (kO0 d.n sg ov) (kI1 d.n sg ov)) (kO1 d.n sg ov) (d.m x.toNat)) x.toNat (kI0 d.n sg ov)
 lp := if x < 0 then d.lp - 1 else d.lp
theorem crl_n (d : Pl.Dg) (x sg : Int) (ov : Bool) : (crl d x sg ov).n = d.n + 1 := by unfold Pl.Dg.n crl; simp
/-- What curl answers. -/
def CurlPost (d : Pl.Dg) (x sg : Int) (ov : Bool) (w : World) (e : Ending) (w' : World) : Prop := (curlableC d x ≠ 0 → ResErr (curlableC d x) e) ∧ (curlableC d x = 0 → ResOk (crl d x sg ov) ⟨2, d.n, 0, 0, false⟩ e w') ∧ Below w.heap.size w w'
theorem Row.cast {W W3 : World} {g : Nat} {t : TypeId} {vs : List Value} (h : W3 = W) (r : Row W g t vs) : Row W3 g t vs := h ▸ r
end Go.Proofs.YtcaoblilkgajoaaDoor
end
section
namespace Go.Proofs.YtcaoblilkgajoaaDoor
open Go.RowKit
def boxV (A B : Option Addr) (n cp q cq : Nat) (l : Value) : List Value := [.slice A n cp, .slice B q cq, l]
set_option maxRecDepth 100000 in
set_option maxHeartbeats 4000000 in
theorem label_any (d : Pl.Dg) (hd : Pl.Wf d) (A B : Option Addr) (cp cq : Nat) (l : Value) (w : World) (hg : DgAt w A B d) :
 Calls Tryd.prog 72 #[.agg #[.slice A d.n cp, .slice B (4 * d.n) cq, l]] w fun e w' =>
  ∃ (ps : List Int) (P g : Nat), e = .returned (.tuple #[.slice (some ⟨g, 0, none⟩) d.n d.n, .int .i64 (P : Int)]) ∧ Pl.LB d ps P ∧ (∀ a, a < d.n → 0 ≤ Pl.pv ps a) ∧ w.heap.size ≤ g ∧ IRow w' g ps ∧ Below w.heap.size w w' := by
 have hn := hd.few
 have HF := hide hd
 clear hd
 have hmk := run_ints d.n (by omega) (w.alloc (.cells #[.slice A d.n cp, .slice B (4 * d.n) cq, l] 28))
 go_enter Tryd.func72, Tryd.ntmps72
 go_wp2
 clear hmk
 obtain ⟨W1, hW1⟩ : ∃ W1 : World, W1 = (w.alloc (.cells #[.slice A d.n cp, .slice B (4 * d.n) cq, l] 28)).alloc (.cells (Array.replicate d.n (Value.int .i64 0)) 3) := ⟨_, rfl⟩
 have B1 := hide (show Below w.heap.size w W1 by rw [hW1]; exact ((Below.refl _ _).alloc (Nat.le_refl _) _).alloc (by simp) _)
 have X1 := hide (show Row W1 w.heap.size 28 (boxV A B d.n cp (4 * d.n) cq l) by rw [hW1]; exact (Row.new w _ _).alloc _)
 have R1 := hide (show IRow W1 (w.heap.size + 1) (List.replicate d.n 0) by
  rw [hW1]
  have := IRow.made (w.alloc (.cells #[.slice A d.n cp, .slice B (4 * d.n) cq, l] 28)) d.n
  simpa using this)
 rw [← hW1]
 clear hW1
 go_loopg [18] d.n (fun g i wx => ∃ k : Nat, k + g = d.n ∧ i = .int .i64 k ∧ Below w.heap.size w wx ∧ Row wx w.heap.size 28 (boxV A B d.n cp (4 * d.n) cq l) ∧ IRow wx (w.heap.size + 1) (List.replicate k (-1) ++ List.replicate (d.n - k) 0))
 case atStart => exact ⟨0, by omega, rfl, B1.out, X1.out, by simpa using R1.out⟩
 case round =>
  obtain ⟨k, hkg, rfl, b2, x2, r2⟩ := hrel
  have HG := hide hkg
  have hks : k ≤ d.n := by omega
  clear hkg
  by_cases hlt : k < d.n
  ·have c1 := r2.cell (i := k) (by simp; omega)
   have f1 := Row.free r2 k
   have B2 := hide b2
   have X2 := hide x2
   have R2 := hide r2
   clear b2 x2 r2
   go_wp2
   go_roundg (gk - 1)
   case measure => have := HG.out; omega
   case rel =>
    refine ⟨k + 1, by have := HG.out; omega, by go_num, ?_, X2.out.other (by simp) _, ?_⟩
    ·exact B2.out.setCell (by simp) _
    ·have := R2.out.set k (-1)
     rwa [Pl.fill_set hlt] at this
  ·have hkn : k = d.n := by omega
   have B2 := hide b2
   have X2 := hide x2
   have R2 := hide (show IRow wr (w.heap.size + 1) (List.replicate d.n (-1)) by subst hkn; simpa using r2)
   clear b2 x2 r2 hkn
   go_wp2
   go_loopg [6, 27] d.n (fun g p i wx => ∃ (k P : Nat) (ps : List Int), k + g = d.n ∧ i = .int .i64 k ∧ p = .int .i64 P ∧ Pl.LB d ps P ∧ (∀ a, a < k → 0 ≤ Pl.pv ps a) ∧ Below w.heap.size w wx ∧ Row wx w.heap.size 28 (boxV A B d.n cp (4 * d.n) cq l) ∧ IRow wx (w.heap.size + 1) ps)
   case atStart => exact ⟨0, 0, _, by omega, rfl, rfl, Pl.LB.start d, fun a ha => absurd ha (by omega), B2.out, X2.out, R2.out⟩
   case round =>
    clear B2 X2 R2 B1 X1 R1 HG hks hlt
    obtain ⟨j, P, ps, hjg, rfl, rfl, hlb, hall, b3, x3, r3⟩ := hrel
    have HG := hide hjg
    have HL := hide hlb
    have HA := hide hall
    have hjs : j ≤ d.n := by omega
    have hlen : ps.length = d.n := hlb.len
    have hP := hlb.le
    have HLen := hide hlen
    clear hjg hlb hall
    by_cases hjn : j < d.n
    ·have c1 := r3.cell (i := j) (by omega)
     have f1 := Row.free r3 j
     have B3 := hide b3
     have X3 := hide x3
     have R3 := hide r3
     clear b3 x3 r3 hlen
     by_cases hlab : 0 ≤ Pl.pv ps j
     ·go_wp2
      go_roundg (gk - 1)
      case measure => have := HG.out; omega
      case rel =>
       refine ⟨j + 1, P, ps, by have := HG.out; omega, by go_num, rfl, HL.out, fun a ha => ?_, B3.out, X3.out, R3.out⟩
       by_cases e : a = j
       ·rw [e]; exact hlab
       ·exact HA.out a (by omega)
     ·have hneg : Pl.pv ps j < 0 := by omega
      have hjl : j < ps.length := by have := HLen.out; omega
      obtain ⟨wo, rfl⟩ : ∃ wo : World, wo = wr := ⟨_, rfl⟩
      have hwz : w.heap.size + 2 ≤ wo.heap.size := by have := R3.out.lt; omega
      go_wp2
      obtain ⟨W2, hW2⟩ : ∃ W2 : World, W2 = (wo.setCell ⟨w.heap.size + 1, j, none⟩ (.int .i64 P)).alloc (.cells #[.int .i64 j] 3) := ⟨_, rfl⟩
      have B4 := hide (show Below w.heap.size w W2 by rw [hW2]; exact (B3.out.setCell (by simp) _).alloc (by simp; omega) _)
      have X4 := hide (show Row W2 w.heap.size 28 (boxV A B d.n cp (4 * d.n) cq l) by rw [hW2]; exact (X3.out.other (by simp) _).alloc _)
      have R4 := hide (show IRow W2 (w.heap.size + 1) (ps.set j P) by rw [hW2]; exact Row.alloc (R3.out.set j P) _)
      have Q4 := hide (show OwnT W2 (w.heap.size + 2) 3 (.slice (some ⟨wo.heap.size, 0, none⟩) 1 1) 1 [.int .i64 j] by
       rw [hW2]
       refine ⟨rfl, wo.heap.size, 0, 1, #[.int .i64 j], rfl, hwz, ?_, by omega, by unfold maxLen; omega, by simp, rfl⟩
       have := heap_alloc_new (wo.setCell ⟨w.heap.size + 1, j, none⟩ (.int .i64 P)) (.cells #[.int .i64 j] 3)
       simpa using this)
      have HQ := hide (Pl.LQ.start HL.out hjn hneg)
      have HU := hide (Pl.unl_set hjl hneg (v := (P : Int)) (by omega))
      rw [← hW2]
      clear hW2 B3 X3 R3 c1 f1 hneg hlab
      go_loopg [8] (Pl.unl (ps.set j P) + 1) (fun g v wx => ∃ (p1 : List Int) (qs : List Nat), g = Pl.unl p1 + qs.length ∧ Pl.unl p1 + qs.length ≤ d.n ∧ Pl.LQ d j ps P p1 qs d.n 0 ∧ OwnT wx (w.heap.size + 2) 3 v qs.length (qs.map (fun q : Nat => Value.int .i64 q)) ∧ Below w.heap.size w wx ∧ Row wx w.heap.size 28 (boxV A B d.n cp (4 * d.n) cq l) ∧ IRow wx (w.heap.size + 1) p1)
      case atStart => exact ⟨_, [j], rfl, by have h1 := HU.out; have h2 : Pl.unl ps ≤ ps.length := List.countP_le_length; have h3 := HLen.out; simp only [List.length_singleton]; omega, HQ.out, Q4.out, B4.out, X4.out, R4.out⟩
      case round =>
       clear B4 X4 R4 Q4 HQ HU
       obtain ⟨p1, qs, hgk, hgn, hlq, hown, b5, x5, r5⟩ := hrel
       have HGN := hide hgn
       have HGK := hide hgk
       have HQ := hide hlq
       have B5 := hide b5
       have X5 := hide x5
       have R5 := hide r5
       clear hgk hgn hlq b5 x5 r5
       cases qs with
       | nil =>
         obtain ⟨g0, off, cap, rfl, _, _, _, _, _⟩ := hown.cells
         have HD := hide (Pl.LQ.done HF.out HQ.out)
         simp only [List.length_nil]
         go_wp2
         go_roundg (d.n - (j + 1))
         case measure => have := HG.out; omega
         case rel =>
          refine ⟨j + 1, P + 1, p1, by omega, by go_num, by go_num, HD.out.1, fun a ha => ?_, B5.out, X5.out, R5.out⟩
          by_cases e : a = j
          ·rw [e]; exact HD.out.2.2
          ·exact HD.out.2.1 a (by omega) (HA.out a (by omega))
       | cons q qs =>
         have hqn : q < d.n := (HQ.out.wait q (by simp)).1
         have HQP := hide ((HQ.out.wait q (by simp)).2)
         have hown' := hown
         obtain ⟨g0, off, cap, rfl, hg0, hg1, hcl, hcm, hcells⟩ := hown'.cells
         have cq0 : wr.cell? ⟨g0, off, none⟩ = some (.int .i64 (q : Int)) := by
          have := hcells 0 (.int .i64 (q : Int)) rfl
          simpa using this
         rw [List.length_cons] at hown hcl
         rw [List.map_cons] at hown
         have HO := hide hown
         simp only [List.length_cons]
         unfold maxLen at hcm
         clear hown hcells
         obtain ⟨wo, rfl⟩ : ∃ wo : World, wo = wr := ⟨_, rfl⟩
         have HP := hide (HQ.out.pop rfl)
         by_cases hcap : cap = 1
         case' pos =>
          have Q6 := hide (HO.out.tail0 hcap)
          have hq0 : qs.length = 0 := by omega
          have HQ0 := hide hq0
          go_wp2
          have HC := hide hcap
          clear hq0 hcap
         case' neg =>
          have Q6 := hide (show OwnT wo (w.heap.size + 2) 3 (.slice (some ⟨g0, off + 1, none⟩) qs.length (cap - 1)) qs.length (qs.map (fun q : Nat => Value.int .i64 q)) from HO.out.tail)
          go_wp2
         all_goals
          clear HO cq0
          go_loopg [8, 49] 4 (fun g v i wx => ∃ (p2 : List Int) (qs2 : List Nat) (s : Nat), s + g = 4 ∧ i = .int .i64 s ∧ Pl.unl p2 + qs2.length = Pl.unl p1 + qs.length ∧ Pl.LQ d j ps P p2 qs2 q s ∧ Pl.pv p2 q = P ∧ OwnT wx (w.heap.size + 2) 3 v qs2.length (qs2.map (fun q : Nat => Value.int .i64 q)) ∧ Below w.heap.size w wx ∧ Row wx w.heap.size 28 (boxV A B d.n cp (4 * d.n) cq l) ∧ IRow wx (w.heap.size + 1) p2)
          case atStart =>
           refine ⟨p1, qs, 0, rfl, rfl, rfl, HP.out, HQP.out, ?_, B5.out, X5.out, R5.out⟩
           first
            | exact Q6.out
            | (have h6 := Q6.out; rw [HQ0.out, HC.out] at h6; rw [HQ0.out]; exact h6)
          case round =>
           clear B5 X5 R5 HP HQP Q6
           obtain ⟨p2, qs2, s, hsg, rfl, hum, hlq2, hpq, hown2, b6, x6, r6⟩ := hrel
           have HSG := hide hsg
           have HUM := hide hum
           have HQ2 := hide hlq2
           have HPQ := hide hpq
           have HO2 := hide hown2
           have hs4 : s ≤ 4 := by omega
           have HL2 := hide hlq2.len
           obtain ⟨g2, off2, cap2, rfl, hg20, hg21, hcl2, hcm2, _⟩ := hown2.cells
           unfold maxLen at hcm2
           clear hsg hum hlq2 hpq hown2
           by_cases hs : s < 4
           ·have hi : 4 * q + s < 4 * d.n := by omega
            obtain ⟨bb, bo, rfl, hmc⟩ := mate_at hg.m hi
            have hmc' := cell_below hmc b6
            have hnb := Pl.nb_lt HF.out hqn hs
            have hml := HF.out.lt _ hi
            have hnl : Pl.nb d q s < p2.length := by have := HL2.out; omega
            have c7 := r6.cell hnl
            have f7 := Row.free r6 (Pl.nb d q s)
            have B6 := hide b6
            have X6 := hide x6
            have R6 := hide r6
            have x7 := x6.cell (i := 1) (by show 1 < 3; omega)
            have x7' : wr.cell? ⟨w.heap.size, 1, none⟩ = some (.slice (some ⟨bb, bo, none⟩) (4 * d.n) cq) := x7
            unfold Pl.nb at c7 f7
            clear b6 x6 r6 x7 hmc
            by_cases hneg : Pl.pv p2 (d.m (4 * q + s) / 4) < 0
            ·obtain ⟨wq, rfl⟩ : ∃ wq : World, wq = wr := ⟨_, rfl⟩
             have hq65 : qs2.length ≤ 1000 := by
              have h1 := HUM.out
              have h2 := HGN.out
              rw [List.length_cons] at h2
              omega
             obtain ⟨i0, hi0, hz0, hz1, hz2⟩ := info_parts intInfo
             have hwz2 : w.heap.size + 2 ≤ wq.heap.size := by have := R6.out.lt; omega
             have HC1 := hide (show ((wq.setCell ⟨w.heap.size + 1, d.m (4 * q + s) / 4, none⟩ (.int .i64 P)).alloc (.cells #[.int .i64 ((d.m (4 * q + s) : Int) / 4)] 3)).cell? ((⟨wq.heap.size, 0, none⟩ : Addr).add 0) = some (.int .i64 ((d.m (4 * q + s) : Int) / 4)) by
              have h8 := Lib.cell_of_heap (heap_alloc_new (wq.setCell ⟨w.heap.size + 1, d.m (4 * q + s) / 4, none⟩ (.int .i64 P)) (.cells #[.int .i64 ((d.m (4 * q + s) : Int) / 4)] 3)) 0
              simpa [Addr.add] using h8)
             go_wp2_with (at_builtin; refine wpList_append_tail _ rfl _ _ 22 rfl (w.heap.size + 2) 3 i0 (.int .i64 0) 8 Tryd.underlying22 hi0 hz0 hz1 hz2 rfl (.slice (some ⟨g2, off2, none⟩) qs2.length cap2) qs2.length (qs2.map (fun q : Nat => Value.int .i64 q)) (by rfl) (OwnT.below (OwnT.keep HO2.out (w' := wq.setCell ⟨w.heap.size + 1, d.m (4 * q + s) / 4, none⟩ (.int .i64 P)) (fun g h1 h2 h3 => Below.heap_setCell _ _ _ _ (by simp; omega))) ((Below.refl _ _).alloc (Nat.le_refl _) _)) ⟨wq.heap.size, 0, none⟩ 1 (.int .i64 ((d.m (4 * q + s) : Int) / 4)) (by rfl) HC1.out rfl (by unfold maxLen; omega) (by omega) (by simp; omega) ?_; intro v7 w7 own7 grow7)
             have hne2 : (Value.slice (some ⟨g2, off2, none⟩) qs2.length cap2).ownBlock = some g2 := rfl
             rw [hne2] at grow7
             go_roundg (gk - 1)
             case measure => have := HSG.out; omega
             case rel =>
              have hu := Pl.unl_set (ps := p2) (i := Pl.nb d q s) (by have := HL2.out; omega) hneg (v := (P : Int)) (by omega)
              refine ⟨p2.set (Pl.nb d q s) P, qs2 ++ [Pl.nb d q s], s + 1, by have := HSG.out; omega, by go_num, ?_, HQ2.out.push HF.out hqn HPQ.out hs hneg, ?_, ?_, ?_, ?_, ?_⟩
              ·have := HUM.out; rw [List.length_append, List.length_singleton]; omega
              ·rw [Pl.pv_set (by have := HL2.out; omega)]; split; rfl; exact HPQ.out
              ·rw [List.length_append, List.length_singleton, List.map_append]
               have e9 : (Value.int .i64 ((Pl.nb d q s : Nat) : Int)) = Value.int .i64 ((d.m (4 * q + s) : Int) / 4) := by
                congr 1
               rw [List.map_cons, List.map_nil, e9]
               exact own7
              ·exact (Below.alloc (B6.out.setCell (by simp) _) (by simp; omega) _).grown grow7 (by simp; omega) (fun k hk => by injection hk with hk; omega)
              ·exact Row.grown ((X6.out.other (by simp) _).alloc _) grow7 (by intro e; injection e with e; omega)
              ·exact Row.grown (Row.alloc (R6.out.set _ P) _) grow7 (by intro e; injection e with e; omega)
            ·go_wp2
             go_roundg (gk - 1)
             case measure => have := HSG.out; omega
             case rel =>
              exact ⟨p2, qs2, s + 1, by have := HSG.out; omega, by go_num, HUM.out, HQ2.out.skip (by unfold Pl.nb; omega), HPQ.out, HO2.out, B6.out, X6.out, R6.out⟩
           ·have hs4' : s = 4 := by omega
            have B6 := hide b6
            have X6 := hide x6
            have R6 := hide r6
            clear b6 x6 r6
            go_wp2
            go_roundg (Pl.unl p1 + qs.length)
            case measure => have := HGK.out; rw [List.length_cons] at this; omega
            case rel =>
             exact ⟨p2, qs2, HUM.out.symm, by have h8 := HUM.out; have h9 := HGN.out; rw [List.length_cons] at h9; omega, by have h7 := HQ2.out; rw [hs4'] at h7; exact h7.rest, HO2.out, B6.out, X6.out, R6.out⟩
    ·have hjn' : j = d.n := by omega
     have B3 := hide b3
     have R3 := hide r3
     have hwz3 : w.heap.size + 1 < wr.heap.size := r3.lt
     clear b3 x3 r3 hlen
     go_wp2
     go_ret2
     exact ⟨ps, P, w.heap.size + 1, rfl, HL.out, fun a ha => HA.out a (by omega), by omega, R3.out, B3.out⟩
theorem label_m (d : Pl.Dg) (hd : Pl.Wf d) (A B : Option Addr) (cp cq m : Nat) (l : Value) (w : World) (hm : m = 4 * d.n) (hg : DgAt w A B d) :
 Calls Tryd.prog 72 #[.agg #[.slice A d.n cp, .slice B m cq, l]] w fun e w' =>
  ∃ (ps : List Int) (P g : Nat), e = .returned (.tuple #[.slice (some ⟨g, 0, none⟩) d.n d.n, .int .i64 (P : Int)]) ∧ Pl.LB d ps P ∧ (∀ a, a < d.n → 0 ≤ Pl.pv ps a) ∧ w.heap.size ≤ g ∧ IRow w' g ps ∧ Below w.heap.size w w' := by
 subst hm; exact label_any d hd A B cp cq l w hg
end Go.Proofs.YtcaoblilkgajoaaDoor
end
section
namespace Go.Proofs.YtcaoblilkgajoaaDoor.Pl
variable {d : Dg}
noncomputable def vb (p : Prop) : Bool := open Classical in decide p
theorem vb_true {p : Prop} (h : p) : vb p = true := by unfold vb; simpa using h
theorem vb_false {p : Prop} (h : ¬ p) : vb p = false := by unfold vb; simpa using h
theorem vb_iff {p : Prop} : vb p = true ↔ p := by unfold vb; simp
theorem Wf.nxb (hd : Wf d) : Bij (4 * d.n) (dart d) (nx d) := hd.hm.pb
def gb (bs : List Bool) (g : Nat) : Bool := bs.getD g false
theorem gb_set {bs : List Bool} {i : Nat} (hi : i < bs.length) (v : Bool) (a : Nat) : gb (bs.set i v) a = if a = i then v else gb bs a := by
 unfold gb
 rw [List.getD_eq_getElem?_getD, List.getD_eq_getElem?_getD, List.getElem?_set]
 by_cases h : i = a
 ·subst h; simp [hi]
 ·rw [if_neg h, if_neg (fun e => h e.symm)]
def uns (bs : List Bool) : Nat := bs.countP (fun b => !b)
theorem uns_set {bs : List Bool} {i : Nat} (hi : i < bs.length) (hn : gb bs i = false) : uns (bs.set i true) + 1 = uns bs := by
 have e : gb bs i = bs[i] := by unfold gb; rw [List.getD_eq_getElem?_getD, List.getElem?_eq_getElem hi]; rfl
 have hb : bs[i] = false := by rw [← e, hn]
 have hp : 0 < uns bs := by
  unfold uns
  rw [List.countP_pos_iff]
  exact ⟨bs[i], List.getElem_mem hi, by rw [hb]; rfl⟩
 unfold uns at hp ⊢
 rw [List.countP_set hi, hb]
 simp only [Bool.not_false, if_true, Bool.not_true, Bool.false_eq_true, if_false]
 omega
/-- Marked are the faces of the half-edges below k. -/
structure SQ (d : Dg) (k : Nat) (bs : List Bool) : Prop where
 len : bs.length = 4 * d.n
 iff : ∀ g, g < 4 * d.n → (gb bs g = true ↔ ∃ h, h < k ∧ Orb (nx d) h g)
theorem SQ.start (d : Dg) : SQ d 0 (List.replicate (4 * d.n) false) := by
 refine ⟨by simp, fun g hg => ?_⟩
 have : gb (List.replicate (4 * d.n) false) g = false := by
  unfold gb; rw [List.getD_eq_getElem?_getD, List.getElem?_replicate, if_pos hg]; rfl
 rw [this]
 exact ⟨fun h => (Bool.false_ne_true h).elim, fun ⟨h, h1, _⟩ => by omega⟩
/-- .. and the first i half-edges of the face of k. -/
structure SI (d : Dg) (k i : Nat) (bs : List Bool) : Prop where
 len : bs.length = 4 * d.n
 hk : k < 4 * d.n
 new : ¬ ∃ h, h < k ∧ Orb (nx d) h k
 iff : ∀ g, g < 4 * d.n → (gb bs g = true ↔ (∃ h, h < k ∧ Orb (nx d) h g) ∨ ∃ j, j < i ∧ it (nx d) j k = g)
theorem SQ.seen (hd : Wf d) {k : Nat} {bs : List Bool} (h : SQ d k bs) (hk : k < 4 * d.n) (hs : gb bs k = true) : SQ d (k + 1) bs ∧ ¬ Least (nx d) k := by
 obtain ⟨h0, h1, h2⟩ := (h.iff k hk).1 hs
 have h0n : h0 < 4 * d.n := by omega
 refine ⟨⟨h.len, fun g hg => (h.iff g hg).trans ⟨fun ⟨x, hx, e⟩ => ⟨x, by omega, e⟩, fun ⟨x, hx, e⟩ => ?_⟩⟩, fun hl => ?_⟩
 ·by_cases e2 : x = k
  ·subst e2; exact ⟨h0, h1, h2.trans e⟩
  ·exact ⟨x, by omega, e⟩
 ·obtain ⟨j, hj⟩ := hd.nxb.symm h0n h2
  have := hl j
  omega
theorem SQ.enter (hd : Wf d) {k : Nat} {bs : List Bool} (h : SQ d k bs) (hk : k < 4 * d.n) (hs : gb bs k = false) : SI d k 0 bs ∧ Least (nx d) k := by
 have hn : ¬ ∃ h, h < k ∧ Orb (nx d) h k := fun e => by rw [(h.iff k hk).2 e] at hs; cases hs
 refine ⟨⟨h.len, hk, hn, fun g hg => (h.iff g hg).trans ⟨.inl, fun e => e.resolve_right (fun ⟨j, hj, _⟩ => by omega)⟩⟩, fun j => ?_⟩
 refine Nat.le_of_not_lt fun hlt => hn ⟨_, hlt, hd.nxb.symm hk ⟨j, rfl⟩⟩
theorem SI.lt (hd : Wf d) {k i : Nat} {bs : List Bool} (h : SI d k i bs) : it (nx d) i k < 4 * d.n := hd.nxb.it i k h.hk
theorem SI.step (hd : Wf d) {k i : Nat} {bs : List Bool} (h : SI d k i bs) : SI d k (i + 1) (bs.set (it (nx d) i k) true) := by
 have hl : it (nx d) i k < bs.length := by rw [h.len]; exact h.lt hd
 refine ⟨by rw [List.length_set, h.len], h.hk, h.new, fun g hg => ?_⟩
 rw [gb_set hl]
 by_cases e : g = it (nx d) i k
 ·rw [if_pos e]
  exact ⟨fun _ => .inr ⟨i, by omega, e.symm⟩, fun _ => rfl⟩
 ·rw [if_neg e, h.iff g hg]
  constructor
  ·rintro (h1 | ⟨j, hj, e1⟩)
   ·exact .inl h1
   ·exact .inr ⟨j, by omega, e1⟩
  ·rintro (h1 | ⟨j, hj, e1⟩)
   ·exact .inl h1
   ·by_cases e2 : j = i
    ·subst e2; exact absurd e1.symm e
    ·exact .inr ⟨j, by omega, e1⟩
theorem SI.done (hd : Wf d) {k i : Nat} {bs : List Bool} (h : SI d k i bs) (hs : gb bs (it (nx d) i k) = true) : SQ d (k + 1) bs := by
 have hb := hd.nxb
 -- the face has come back
 have hback : ∃ p, 0 < p ∧ p ≤ i ∧ it (nx d) p k = k := by
  rcases (h.iff _ (h.lt hd)).1 hs with ⟨x, hx, e⟩ | ⟨j, hj, e⟩
  ·exact absurd ⟨x, hx, e.trans (hb.symm h.hk ⟨i, rfl⟩)⟩ h.new
  ·refine ⟨i - j, by omega, by omega, ?_⟩
   have e2 : it (nx d) i k = it (nx d) j (it (nx d) (i - j) k) := by rw [← it_add, Nat.add_sub_cancel' (by omega)]
   rw [e2] at e
   exact (hb.it_inj j _ _ h.hk (hb.it _ k h.hk) e).symm
 obtain ⟨p, hp, hpi, e⟩ := hback
 have all : ∀ g, Orb (nx d) k g → ∃ j, j < i ∧ it (nx d) j k = g := by
  intro g hg
  have : ∃ j, j < p ∧ it (nx d) j k = g := orb_closed (P := fun g => ∃ j, j < p ∧ it (nx d) j k = g) (fun z ⟨j, hj, ej⟩ => by
   by_cases e3 : j + 1 = p
   ·refine ⟨0, hp, ?_⟩
    rw [← ej]
    show k = it (nx d) (j + 1) k
    rw [e3, e]
   ·exact ⟨j + 1, by omega, by rw [← ej]; rfl⟩) ⟨0, hp, rfl⟩ hg
  obtain ⟨j, hj, ej⟩ := this
  exact ⟨j, by omega, ej⟩
 refine ⟨h.len, fun g hg => (h.iff g hg).trans ⟨?_, ?_⟩⟩
 ·rintro (⟨x, hx, e1⟩ | ⟨j, _, e1⟩)
  ·exact ⟨x, by omega, e1⟩
  ·exact ⟨k, by omega, j, e1⟩
 ·rintro ⟨x, hx, e1⟩
  by_cases e2 : x = k
  ·subst e2; exact .inr (all g e1)
  ·exact .inl ⟨x, by omega, e1⟩
/-- How many crossings a label has, and how many faces. -/
noncomputable def nv (ps : List Int) (p k : Nat) : Nat := cnt (fun a => pv ps a = p) k
noncomputable def nf (d : Dg) (ps : List Int) (p k : Nat) : Nat := cnt (fun h => Least (nx d) h ∧ pv ps (h / 4) = p) k
/-- The numbers of the rule while they are counted. -/
def Ex (d : Dg) (ps es : List Int) (P k m : Nat) : Prop := es.length = P ∧ ∀ p, p < P → pv es p = (nf d ps p m : Int) - (nv ps p k : Int)
theorem Ex.start (d : Dg) (ps : List Int) (P : Nat) : Ex d ps (List.replicate P 0) P 0 0 := by
 refine ⟨by simp, fun p hp => ?_⟩
 have : pv (List.replicate P 0) p = 0 := by
  unfold pv; rw [List.getD_eq_getElem?_getD, List.getElem?_replicate, if_pos hp]; rfl
 rw [this]
 simp [nf, nv, cnt]
theorem Ex.less {ps es : List Int} {P k : Nat} (h : Ex d ps es P k 0) {q : Nat} (hq : q < P) (e : pv ps k = q) : Ex d ps (es.set q (pv es q - 1)) P (k + 1) 0 := by
 refine ⟨by rw [List.length_set, h.1], fun p hp => ?_⟩
 rw [pv_set (by rw [h.1]; exact hq)]
 have hp0 := h.2 p hp
 by_cases e2 : p = q
 ·subst e2
  rw [if_pos rfl, hp0]
  unfold nv
  rw [cnt_step_pos e]; omega
 ·rw [if_neg e2, hp0]
  unfold nv
  rw [cnt_step_neg (fun e3 => e2 (by rw [e] at e3; omega))]
theorem Ex.more {ps es : List Int} {P k m : Nat} (h : Ex d ps es P k m) {q : Nat} (hq : q < P) (e : pv ps (m / 4) = q) (hl : Least (nx d) m) : Ex d ps (es.set q (pv es q + 1)) P k (m + 1) := by
 refine ⟨by rw [List.length_set, h.1], fun p hp => ?_⟩
 rw [pv_set (by rw [h.1]; exact hq)]
 have hp0 := h.2 p hp
 by_cases e2 : p = q
 ·subst e2
  rw [if_pos rfl, hp0]
  unfold nf
  rw [cnt_step_pos ⟨hl, e⟩]; omega
 ·rw [if_neg e2, hp0]
  unfold nf
  rw [cnt_step_neg (fun e3 => e2 (by have := e3.2; rw [e] at this; omega))]
theorem Ex.same {ps es : List Int} {P k m : Nat} (h : Ex d ps es P k m) (hl : ¬ Least (nx d) m) : Ex d ps es P k (m + 1) := by
 refine ⟨h.1, fun p hp => ?_⟩
 rw [h.2 p hp]
 unfold nf
 rw [cnt_step_neg (fun e3 => hl e3.1)]
/-- The rule of faces. -/
def Rule (d : Dg) : Prop := ∀ c, c < d.n → cnt (fun h => Least (nx d) h ∧ Comp d c (h / 4)) (4 * d.n) = cnt (fun b => Comp d c b) d.n + 2
theorem Ex.rule (hd : Wf d) {ps es : List Int} {P : Nat} (hb : LB d ps P) (hall : ∀ a, a < d.n → 0 ≤ pv ps a) (h : Ex d ps es P d.n (4 * d.n)) : (∀ p, p < P → pv es p = 2) ↔ Rule d := by
 have key : ∀ c p : Nat, c < d.n → pv ps c = p → nf d ps p (4 * d.n) = cnt (fun h => Least (nx d) h ∧ Comp d c (h / 4)) (4 * d.n) ∧ nv ps p d.n = cnt (fun b => Comp d c b) d.n := by
  intro c p hc e
  have one : ∀ b, b < d.n → (pv ps b = p ↔ Comp d c b) := fun b hb' => ⟨fun e2 => hb.conn c b hc hb' (hall c hc) (by rw [e, e2]), fun e2 => by rw [hb.same c b hc e2 (hall c hc), e]⟩
  refine ⟨cnt_congr _ (fun x hx => ?_), cnt_congr _ (fun x hx => one x hx)⟩
  rw [one (x / 4) (by omega)]
 constructor
 ·intro h2 c hc
  have hlo := hb.lo c hc
  have h0 := hall c hc
  obtain ⟨p, hp⟩ : ∃ p : Nat, pv ps c = p := ⟨(pv ps c).toNat, by omega⟩
  obtain ⟨k1, k2⟩ := key c p hc hp
  have h3 := h2 p (by omega)
  rw [h.2 p (by omega), k1, k2] at h3
  omega
 ·intro h2 p hp
  obtain ⟨c, hc, e⟩ := hb.all p hp
  obtain ⟨k1, k2⟩ := key c p hc e
  rw [h.2 p hp, k1, k2, h2 c hc]
  omega
end Go.Proofs.YtcaoblilkgajoaaDoor.Pl
end
section
namespace Go.Proofs.YtcaoblilkgajoaaDoor
open Go.RowKit
set_option maxRecDepth 100000 in
set_option maxHeartbeats 4000000 in
theorem spherical_any (d : Pl.Dg) (hd : Pl.Wf d) (A B : Option Addr) (cp cq : Nat) (l : Value) (w : World) (hl : l = .int .i64 d.lp) (hg : DgAt w A B d) :
 Calls Tryd.prog 57 #[.agg #[.slice A d.n cp, .slice B (4 * d.n) cq, l]] w fun e w' => e = .returned (.bool (Pl.vb (Pl.Rule d))) ∧ Below w.heap.size w w' := by
 subst hl
 have hn := hd.few
 have HF := hide hd
 clear hd
 obtain ⟨m, hm⟩ : ∃ m, m = 4 * d.n := ⟨_, rfl⟩
 rw [← hm]
 have HM := hide hm
 have hm6 : m ≤ 256 := by omega
 clear hm
 go_enter Tryd.func57, Tryd.ntmps57
 go_wp2_with fail
 have b0 : Below w.heap.size w (w.alloc (.cells #[.slice A d.n cp, .slice B m cq, .int .i64 d.lp] 28)) := (Below.refl _ _).alloc (Nat.le_refl _) _
 have x0 : Row (w.alloc (.cells #[.slice A d.n cp, .slice B m cq, .int .i64 d.lp] 28)) w.heap.size 28 (boxV A B d.n cp m cq (.int .i64 d.lp)) := Row.new w _ _
 refine (label_m d HF.out A B cp cq m _ _ HM.out (hg.keep b0)).mono ?_
 rintro e w1 ⟨ps, P, g, rfl, hlb, hall, hgb, hrow, hb1⟩
 have X1 := hide (x0.below hb1)
 have B1 := hide (b0.trans (hb1.mono (by simp)))
 have hPn := hlb.le
 have HLB := hide hlb
 have HALL := hide hall
 have HLen := hide hlb.len
 have R1 := hide hrow
 have hg0 : w.heap.size + 1 ≤ g := by simpa using hgb
 have hg1 : g < w1.heap.size := hrow.lt
 clear b0 x0 hb1 hlb hall hrow hgb
 have hmk := run_ints P (by omega) w1
 go_wp2
 clear hmk
 obtain ⟨W2, hW2⟩ : ∃ W2 : World, W2 = w1.alloc (.cells (Array.replicate P (Value.int .i64 0)) 3) := ⟨_, rfl⟩
 have B2 := hide (show Below w.heap.size w W2 by rw [hW2]; exact B1.out.alloc (by omega) _)
 have X2 := hide (show Row W2 w.heap.size 28 (boxV A B d.n cp m cq (.int .i64 d.lp)) by rw [hW2]; exact X1.out.alloc _)
 have R2 := hide (show IRow W2 g ps by rw [hW2]; exact Row.alloc R1.out _)
 have E2 := hide (show IRow W2 w1.heap.size (List.replicate P 0) by rw [hW2]; exact IRow.made w1 P)
 rw [← hW2]
 clear hW2 B1 X1 R1
 generalize w1.heap.size = eb at hg1 E2 ⊢
 go_loopg [22] d.n (fun g' i wx => ∃ (k : Nat) (es : List Int), k + g' = d.n ∧ i = .int .i64 k ∧ Pl.Ex d ps es P k 0 ∧ Below w.heap.size w wx ∧ Row wx w.heap.size 28 (boxV A B d.n cp m cq (.int .i64 d.lp)) ∧ IRow wx g ps ∧ IRow wx eb es)
 case atStart => exact ⟨0, _, by omega, rfl, Pl.Ex.start d ps P, B2.out, X2.out, R2.out, E2.out⟩
 case round =>
  clear B2 X2 R2 E2
  obtain ⟨k, es, hkg, rfl, hex, b3, x3, r3, e3⟩ := hrel
  have HG := hide hkg
  have HE := hide hex
  have hks : k ≤ d.n := by omega
  have hel := hex.1
  have HEL := hide hel
  clear hkg hex
  by_cases hlt : k < d.n
  ·obtain ⟨q, hq⟩ : ∃ q : Nat, Pl.pv ps k = q := ⟨(Pl.pv ps k).toNat, by have := HALL.out k hlt; omega⟩
   have hqP : q < P := by have := (HLB.out.lo k hlt).2; omega
   have c1 := r3.cell (i := k) (by have := HLen.out; omega)
   rw [hq] at c1
   have c2 := e3.cell (i := q) (by omega)
   have f2 := Row.free e3 q
   have hlo : -1000 ≤ Pl.pv es q ∧ Pl.pv es q ≤ 1000 := by
    have h1 := HE.out.2 q hqP
    have h2 : Pl.nf d ps q 0 = 0 := rfl
    have h3 : Pl.nv ps q k ≤ k := Pl.cnt_top _ k
    omega
   have HQ := hide hq
   have B3 := hide b3
   have X3 := hide x3
   have R3 := hide r3
   have E3 := hide e3
   clear hq b3 x3 r3 e3 hel
   go_wp2
   go_roundg (gk - 1)
   case measure => have := HG.out; omega
   case rel =>
    refine ⟨k + 1, _, by have := HG.out; omega, by go_num, HE.out.less hqP HQ.out, B3.out.setCell (by simp; omega) _, X3.out.other (by simp; omega) _, Row.other R3.out (by simp; omega) _, E3.out.set q (Pl.pv es q - 1)⟩
  ·have hkn : k = d.n := by omega
   have HE' := hide (show Pl.Ex d ps es P d.n 0 by have := HE.out; rw [hkn] at this; exact this)
   have hmk2 := run_bools m (by omega) wr
   have B3 := hide b3
   have X3 := hide x3
   have R3 := hide r3
   have E3 := hide e3
   have x3c : wr.cell? ⟨w.heap.size, 1, none⟩ = some (.slice B m cq) := x3.cell (i := 1) (by show 1 < 3; omega)
   have ewz : eb < wr.heap.size := e3.lt
   have x3d : (wr.alloc (.cells (Array.replicate m (Value.bool false)) 4)).cell? ⟨w.heap.size, 1, none⟩ = some (.slice B m cq) := (x3.alloc _).cell (i := 1) (by show 1 < 3; omega)
   clear b3 x3 r3 e3 hkn HE hel
   go_wp2
   clear hmk2 x3c x3d
   obtain ⟨W4, hW4⟩ : ∃ W4 : World, W4 = wr.alloc (.cells (Array.replicate m (Value.bool false)) 4) := ⟨_, rfl⟩
   have B4 := hide (show Below w.heap.size w W4 by rw [hW4]; exact B3.out.alloc (by omega) _)
   have X4 := hide (show Row W4 w.heap.size 28 (boxV A B d.n cp m cq (.int .i64 d.lp)) by rw [hW4]; exact X3.out.alloc _)
   have R4 := hide (show IRow W4 g ps by rw [hW4]; exact Row.alloc R3.out _)
   have E4 := hide (show IRow W4 eb es by rw [hW4]; exact Row.alloc E3.out _)
   have S4 := hide (show BRow W4 wr.heap.size (List.replicate (4 * d.n) false) by rw [hW4, ← HM.out]; exact BRow.made wr m)
   rw [← hW4]
   clear hW4 B3 X3 R3 E3
   generalize wr.heap.size = sb at ewz S4 ⊢
   go_loopg [40] m (fun g' i wx => ∃ (k : Nat) (es : List Int) (bs : List Bool), k + g' = m ∧ i = .int .i64 k ∧ Pl.Ex d ps es P d.n k ∧ Pl.SQ d k bs ∧ Below w.heap.size w wx ∧ Row wx w.heap.size 28 (boxV A B d.n cp m cq (.int .i64 d.lp)) ∧ IRow wx g ps ∧ IRow wx eb es ∧ BRow wx sb bs)
   case atStart => exact ⟨0, es, _, by omega, rfl, HE'.out, Pl.SQ.start d, B4.out, X4.out, R4.out, E4.out, S4.out⟩
   case round =>
    clear B4 X4 R4 E4 S4 HG HEL HE'
    obtain ⟨j, e5, bs, hjg, rfl, hex, hsq, b6, x6, r6, e6, s6⟩ := hrel
    have HG := hide hjg
    have HE := hide hex
    have HS := hide hsq
    have hjs : j ≤ m := by omega
    have HEL := hide hex.1
    have HSL := hide hsq.len
    clear hjg hex hsq
    by_cases hjm : j < m
    ·have hj4 : j < 4 * d.n := by have := HM.out; omega
     have c1 := s6.cell (i := j) (by have := HSL.out; omega)
     by_cases hseen : Pl.gb bs j = true
     ·have c1' : wr.cell? ⟨sb, j, none⟩ = some (.bool true) := by rw [c1]; exact congrArg (fun b => some (Value.bool b)) hseen
      have B6 := hide b6
      have X6 := hide x6
      have R6 := hide r6
      have E6 := hide e6
      have S6 := hide s6
      have HSE := hide (HS.out.seen HF.out hj4 hseen)
      clear c1 b6 x6 r6 e6 s6 hseen
      go_wp2
      go_roundg (gk - 1)
      case measure => have := HG.out; omega
      case rel => exact ⟨j + 1, e5, bs, by have := HG.out; omega, by go_num, HE.out.same HSE.out.2, HSE.out.1, B6.out, X6.out, R6.out, E6.out, S6.out⟩
     ·have hseen' : Pl.gb bs j = false := by simpa using hseen
      have c1' : wr.cell? ⟨sb, j, none⟩ = some (.bool false) := by rw [c1]; exact congrArg (fun b => some (Value.bool b)) hseen'
      have HSE := hide (HS.out.enter HF.out hj4 hseen')
      have hj4' : j / 4 < d.n := by omega
      obtain ⟨q, hq⟩ : ∃ q : Nat, Pl.pv ps (j / 4) = q := ⟨(Pl.pv ps (j / 4)).toNat, by have := HALL.out (j / 4) hj4'; omega⟩
      have hqP : q < P := by have := (HLB.out.lo (j / 4) hj4').2; omega
      have c2 := r6.cell (i := j / 4) (by have := HLen.out; omega)
      rw [hq] at c2
      have c3 := e6.cell (i := q) (by have := HEL.out; omega)
      have f3 := Row.free e6 q
      have hlo : -1000 ≤ Pl.pv e5 q ∧ Pl.pv e5 q ≤ 1000 := by
       have h1 := HE.out.2 q hqP
       have h2 : Pl.nf d ps q j ≤ j := Pl.cnt_top _ j
       have h3 : Pl.nv ps q d.n ≤ d.n := Pl.cnt_top _ d.n
       omega
      have HQ := hide hq
      have B6 := hide b6
      have X6 := hide x6
      have R6 := hide r6
      have E6 := hide e6
      have S6 := hide s6
      obtain ⟨wo, rfl⟩ : ∃ wo : World, wo = wr := ⟨_, rfl⟩
      clear c1 b6 x6 r6 e6 s6 hseen hseen' hq
      go_wp2
      obtain ⟨W5, hW5⟩ : ∃ W5 : World, W5 = wo.setCell ⟨eb, q, none⟩ (.int .i64 (Pl.pv e5 q + 1)) := ⟨_, rfl⟩
      have B7 := hide (show Below w.heap.size w W5 by rw [hW5]; exact B6.out.setCell (by simp; omega) _)
      have X7 := hide (show Row W5 w.heap.size 28 (boxV A B d.n cp m cq (.int .i64 d.lp)) by rw [hW5]; exact X6.out.other (by simp; omega) _)
      have R7 := hide (show IRow W5 g ps by rw [hW5]; exact Row.other R6.out (by simp; omega) _)
      have E7 := hide (show IRow W5 eb (e5.set q (Pl.pv e5 q + 1)) by rw [hW5]; exact E6.out.set q _)
      have S7 := hide (show BRow W5 sb bs by rw [hW5]; exact Row.other S6.out (by simp; omega) _)
      rw [← hW5]
      clear hW5 B6 X6 R6 E6 S6 c1' c2 c3 f3
      go_loopg [10] (Pl.uns bs) (fun g' v wx => ∃ (i : Nat) (b8 : List Bool), g' = Pl.uns b8 ∧ v = .int .i64 (Pl.it (Pl.nx d) i j : Nat) ∧ Pl.SI d j i b8 ∧ Below w.heap.size w wx ∧ Row wx w.heap.size 28 (boxV A B d.n cp m cq (.int .i64 d.lp)) ∧ IRow wx g ps ∧ IRow wx eb (e5.set q (Pl.pv e5 q + 1)) ∧ BRow wx sb b8)
      case atStart => exact ⟨0, bs, rfl, rfl, HSE.out.1, B7.out, X7.out, R7.out, E7.out, S7.out⟩
      case round =>
       clear B7 X7 R7 E7 S7
       obtain ⟨i, b8, hgk, rfl, hsi, b9, x9, r9, e9, s9⟩ := hrel
       have HGK := hide hgk
       have HSI := hide hsi
       have HSZ := hide hsi.len
       have hcur4 := hsi.lt HF.out
       clear hgk hsi
       obtain ⟨cur, hcur⟩ : ∃ cur, cur = Pl.it (Pl.nx d) i j := ⟨_, rfl⟩
       rw [← hcur] at hcur4 ⊢
       have HC := hide hcur
       clear hcur
       have hcm : cur < m := by have := HM.out; omega
       have c1 := s9.cell (i := cur) (by have := HSZ.out; omega)
       have f1 := Row.free s9 cur
       by_cases hseen : Pl.gb b8 cur = true
       ·have c1' : wr.cell? ⟨sb, cur, none⟩ = some (.bool true) := by rw [c1]; exact congrArg (fun b => some (Value.bool b)) hseen
        have HD := hide (HSI.out.done HF.out (by rw [← HC.out]; exact hseen))
        have B9 := hide b9
        have X9 := hide x9
        have R9 := hide r9
        have E9 := hide e9
        have S9 := hide s9
        clear c1 f1 b9 x9 r9 e9 s9 hseen
        go_wp2
        go_roundg (m - (j + 1))
        case measure => have := HG.out; omega
        case rel => exact ⟨j + 1, _, b8, by omega, by go_num, HE.out.more hqP HQ.out HSE.out.2, HD.out, B9.out, X9.out, R9.out, E9.out, S9.out⟩
       ·have hseen' : Pl.gb b8 cur = false := by simpa using hseen
        have c1' : wr.cell? ⟨sb, cur, none⟩ = some (.bool false) := by rw [c1]; exact congrArg (fun b => some (Value.bool b)) hseen'
        obtain ⟨bb, bo, rfl, hmc⟩ := mate_at hg.m hcur4
        have hml := HF.out.lt _ hcur4
        have b10 : Below w.heap.size w (wr.setCell ⟨sb, cur, none⟩ (.bool true)) := b9.setCell (by simp; omega) _
        have c2 := cell_below hmc b10
        have x10 : Row (wr.setCell ⟨sb, cur, none⟩ (.bool true)) w.heap.size 28 (boxV A (some ⟨bb, bo, none⟩) d.n cp m cq (.int .i64 d.lp)) := x9.other (by simp; omega) _
        have c3 : (wr.setCell ⟨sb, cur, none⟩ (.bool true)).cell? ⟨w.heap.size, 1, none⟩ = some (.slice (some ⟨bb, bo, none⟩) m cq) := x10.cell (i := 1) (by show 1 < 3; omega)
        have B9 := hide b10
        have X9 := hide x10
        have R9 := hide (show IRow (wr.setCell ⟨sb, cur, none⟩ (.bool true)) g ps from Row.other r9 (by simp; omega) _)
        have E9 := hide (show IRow (wr.setCell ⟨sb, cur, none⟩ (.bool true)) eb (e5.set q (Pl.pv e5 q + 1)) from Row.other e9 (by simp; omega) _)
        have S9 := hide (s9.set cur true)
        have HU := hide (Pl.uns_set (by have := HSZ.out; omega) hseen')
        clear c1 b10 x10 b9 x9 r9 e9 s9 hseen hseen' hmc
        go_wp2_with fail
        refine (turn_back _ _ (by omega)).mono ?_
        rintro e w9 ⟨rfl, rfl⟩
        go_wp2
        go_roundg (gk - 1)
        case measure => have h1 := HGK.out; have h2 := HU.out; omega
        case rel => exact ⟨i + 1, b8.set cur true, by have h1 := HGK.out; have h2 := HU.out; omega, by rw [HC.out]; rfl, by have := HSI.out.step HF.out; rw [← HC.out] at this; exact this, B9.out, X9.out, R9.out, E9.out, S9.out⟩
    ·have hjm' : j = 4 * d.n := by have := HM.out; omega
     have HE' := hide (show Pl.Ex d ps e5 P d.n (4 * d.n) by have := HE.out; rw [hjm'] at this; exact this)
     have HR := hide (HE'.out.rule HF.out HLB.out HALL.out)
     have B6 := hide b6
     have E6 := hide e6
     clear b6 x6 r6 e6 s6 hjm' HE
     go_wp2
     go_loopg [75] P (fun g' i wx => ∃ k : Nat, k + g' = P ∧ i = .int .i64 k ∧ (∀ p, p < k → Pl.pv e5 p = 2) ∧ Below w.heap.size w wx ∧ IRow wx eb e5)
     case atStart => exact ⟨0, by omega, rfl, fun p hp => absurd hp (by omega), B6.out, E6.out⟩
     case round =>
      clear B6 E6
      obtain ⟨k, hkg, rfl, hall2, b7, e7⟩ := hrel
      have HGG := hide hkg
      have HA2 := hide hall2
      have hkP : k ≤ P := by omega
      clear hkg hall2
      by_cases hlt : k < P
      ·have c1 := e7.cell (i := k) (by have := HEL.out; omega)
       have B7 := hide b7
       have E7 := hide e7
       clear b7 e7
       by_cases h2 : Pl.pv e5 k = 2
       ·have H2 := hide h2
        rw [h2] at c1
        clear h2
        go_wp2
        go_roundg (gk - 1)
        case measure => have := HGG.out; omega
        case rel =>
         refine ⟨k + 1, by have := HGG.out; omega, by go_num, fun p hp => ?_, B7.out, E7.out⟩
         by_cases e : p = k
         ·rw [e]; exact H2.out
         ·exact HA2.out p (by omega)
       ·have hb2 : (Pl.pv e5 k != 2) = true := by rw [bne_iff_ne]; exact h2
        have H2 := hide h2
        clear h2
        go_wp2
        go_ret
        exact ⟨ret_bool (Pl.vb_false (fun hr => H2.out (HR.out.2 hr k hlt))).symm, B7.out⟩
      ·have hkP' : k = P := by omega
       have B7 := hide b7
       clear b7 e7
       go_wp2
       go_ret
       exact ⟨ret_bool (Pl.vb_true (HR.out.1 (fun p hp => HA2.out p (by omega)))).symm, B7.out⟩
theorem spherical_n (d : Pl.Dg) (hd : Pl.Wf d) (A B : Option Addr) (n q cp cq : Nat) (l : Value) (w : World) (e1 : n = d.n) (e2 : q = 4 * d.n) (hl : l = .int .i64 d.lp) (hg : DgAt w A B d) :
 Calls Tryd.prog 57 #[.agg #[.slice A n cp, .slice B q cq, l]] w fun e w' => e = .returned (.bool (Pl.vb (Pl.Rule d))) ∧ Below w.heap.size w w' := by
 subst e1; subst e2; exact spherical_any d hd A B cp cq l w hl hg
end Go.Proofs.YtcaoblilkgajoaaDoor
end
section
namespace Go.Proofs.YtcaoblilkgajoaaDoor.Pl
/-- The diagram that the lists would be. -/
def mk (sg mt : List Int) (lp : Int) : Dg := ⟨sg, mt.map Int.toNat, lp.toNat⟩
/-- The lists are a valid diagram. -/
def VL (sg mt : List Int) (lp : Int) : Prop := Valid (mk sg mt lp) ∧ (∀ z, z ∈ mt → 0 ≤ z) ∧ 0 ≤ lp
variable {sg mt : List Int} {lp : Int}
theorem mk_n (sg mt : List Int) (lp : Int) : (mk sg mt lp).n = sg.length := rfl
theorem mk_m {h : Nat} (hh : h < mt.length) : (mk sg mt lp).m h = (pv mt h).toNat := by
 unfold Dg.m mk pv
 rw [List.getD_eq_getElem?_getD, List.getD_eq_getElem?_getD, List.getElem?_map, List.getElem?_eq_getElem hh]; rfl
theorem nats_mk (h : ∀ z, z ∈ mt → 0 ≤ z) : (mk sg mt lp).mt.map (fun m : Nat => (m : Int)) = mt := by
 unfold mk
 rw [List.map_map]
 refine (List.map_congr_left (fun z hz => ?_)).trans (List.map_id mt)
 have := h z hz
 simp only [Function.comp_apply, id_eq]
 omega
theorem pv_mem {l : List Int} {h : Nat} (hh : h < l.length) : pv l h ∈ l := by
 unfold pv
 rw [List.getD_eq_getElem?_getD, List.getElem?_eq_getElem hh]
 exact List.getElem_mem hh
theorem VL.few (h : VL sg mt lp) : sg.length ≤ 64 := h.1.wf.few
theorem VL.len (h : VL sg mt lp) : mt.length = 4 * sg.length := by have := h.1.wf.len; unfold mk Dg.n at this; simpa using this
theorem VL.loops (h : VL sg mt lp) : 0 ≤ lp ∧ lp ≤ 64 := by
 have h1 := h.1.wf.lp
 have h2 := h.2.2
 unfold mk at h1
 simp only at h1
 omega
theorem VL.sign (h : VL sg mt lp) {c : Nat} (hc : c < sg.length) : pv sg c = 1 ∨ pv sg c = -1 := h.1.wf.sign c hc
theorem VL.mate (h : VL sg mt lp) {k : Nat} (hk : k < mt.length) : 0 ≤ pv mt k ∧ pv mt k < mt.length ∧ pv mt k ≠ k ∧ pv mt (pv mt k).toNat = k ∧ out (mk sg mt lp) k ≠ out (mk sg mt lp) (pv mt k).toNat := by
 have hl := h.len
 have hw := h.1.wf
 have h0 := h.2.1 _ (pv_mem hk)
 have hk4 : k < 4 * (mk sg mt lp).n := by rw [mk_n]; omega
 have h1 := hw.lt k hk4
 have h2 := hw.ne k hk4
 have h3 := hw.inv k hk4
 have h4 := hw.way k hk4
 rw [mk_m hk] at h1 h2 h3 h4
 rw [mk_n] at h1
 have hm : (pv mt k).toNat < mt.length := by omega
 rw [mk_m hm] at h3
 have h5 := h.2.1 _ (pv_mem hm)
 exact ⟨h0, by omega, by omega, by omega, h4⟩
/-- All rules but the sphere's. -/
theorem wf_of (h1 : sg.length ≤ 64) (h2 : mt.length = 4 * sg.length) (h3 : 0 ≤ lp ∧ lp ≤ 64) (h4 : ∀ c, c < sg.length → pv sg c = 1 ∨ pv sg c = -1)
 (h5 : ∀ k, k < mt.length → 0 ≤ pv mt k ∧ pv mt k < mt.length ∧ pv mt k ≠ k ∧ pv mt (pv mt k).toNat = k ∧ out (mk sg mt lp) k ≠ out (mk sg mt lp) (pv mt k).toNat) : Wf (mk sg mt lp) := by
 refine ⟨h1, by unfold mk Dg.n; simpa using h2, by unfold mk; simp only; omega, h4, fun h hh => ?_, fun h hh => ?_, fun h hh => ?_, fun h hh => ?_⟩
 all_goals
  rw [mk_n] at hh
  have hl : h < mt.length := by omega
  obtain ⟨g1, g2, g3, g4, g5⟩ := h5 h hl
  rw [mk_m hl]
 ·rw [mk_n]; omega
 ·omega
 ·rw [mk_m (by omega), g4]; rfl
 ·exact g5
theorem VL.of (hw : Wf (mk sg mt lp)) (hp : ∀ z, z ∈ mt → 0 ≤ z) (hl : 0 ≤ lp) : VL sg mt lp ↔ Rule (mk sg mt lp) :=
 ⟨fun h => h.1.flat, fun h => ⟨⟨hw, h⟩, hp, hl⟩⟩
theorem mem_pv {l : List Int} {z : Int} (h : z ∈ l) : ∃ k, k < l.length ∧ pv l k = z := by
 obtain ⟨k, hk, e⟩ := List.mem_iff_getElem.1 h
 exact ⟨k, hk, by unfold pv; rw [List.getD_eq_getElem?_getD, List.getElem?_eq_getElem hk]; exact e⟩
end Go.Proofs.YtcaoblilkgajoaaDoor.Pl
end
section
namespace Go.Proofs.YtcaoblilkgajoaaDoor
open Go.RowKit
/-- A world of the class C. -/
structure Cls (C : World → Prop) where
 w : World
 ok : C w
theorem wp_region_cls {P : Program} (C : World → Prop) {id : Nat} {Q : Exit → Act → World → Prop} {a : Act} {w : World} {l : List Oper} (hm : P.follows .mixedOrders = true) (hB : Region.lexB .any l.toArray = true)
 (hC : C { w with drawn := w.drawn + 1 })
 (h : Nonempty (Cls C) → wpQuiet P l.toArray (fun w' => ∃ p : Cls C, w' = p.w) (fun a' => ∀ w', (∃ p : Cls C, w' = p.w) → Q .normal a' w') l a) : (Code.region id l.toArray true).wp P Q a w :=
 wp_region_quiet (C := fun w' => ∃ p : Cls C, w' = p.w) hm hB ⟨⟨_, hC⟩, rfl⟩ (by simpa using h ⟨⟨_, hC⟩⟩)
/-- A callee's contract that keeps the class. -/
theorem calls_cls {P : Program} {C : World → Prop} {f : FuncId} {args : Array Value} {w : World} {v : Value} {R : Ending → World → Prop} (h : Calls P f args w R) (hR : ∀ e w', R e w' → e = .returned v ∧ C w') :
 Calls P f args w fun e w'' => e = .returned v ∧ ∃ p : Cls C, w'' = p.w :=
 h.mono fun e w' hr => let ⟨h1, h2⟩ := hR e w' hr; ⟨h1, ⟨w', h2⟩, rfl⟩
end Go.Proofs.YtcaoblilkgajoaaDoor
end
