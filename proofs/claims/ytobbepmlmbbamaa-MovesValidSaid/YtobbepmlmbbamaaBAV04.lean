/-
  The texts We, Wf, Xn in one.
-/
import Derived.Test.YtobbepmlmbbamaaBAV03
import Derived.Deep.RegionWith
import Derived.Deep.RegionHeld3
import Derived.Deep.DrawnRows
import Derived.Test.YtobbepmlmbbamaaOpen
import Derived.ChangeSlices
import Derived.Deep.Strs
set_option linter.unusedVariables false
set_option linter.unusedSimpArgs false

section
/-
  Walks: a diagram with crossings more.
-/
namespace Go.Proofs.Ytobbepmlmbbamaa
open Go.RowKit
attribute [local go_sem ↓] Go.wp_at_zero Go.wp_at_succ

/-- What a region keeps: the rows g (a diagram's box) and g + 1 (a box for the result), and whatever lay in w. -/
structure GS (w : World) (g : Nat) (x0 x1 x2 : Value) (W : World) : Prop where
  row : ∃ vs, Row W g 24 [x0, x1, x2] ∧ Row W (g + 1) 24 vs ∧ vs.length = 3
  bel : Below w.heap.size w W
  lo : w.heap.size ≤ g
theorem GS.drew {w : World} {g : Nat} {x0 x1 x2 : Value} {W : World} (h : GS w g x0 x1 x2 W) : GS w g x0 x1 x2 W.drew := ⟨h.row, h.bel.drew, h.lo⟩
/-- What a cell holds. -/
def cv (W : World) (a : Addr) : Value := (W.cell? a).getD (.bool false)
theorem cv_some {W : World} {a : Addr} {v : Value} (h : W.cell? a = some v) : W.cell? a = some (cv W a) := by unfold cv; rw [h]; rfl
theorem GS.alloc {w : World} {g : Nat} {x0 x1 x2 : Value} {W : World} (h : GS w g x0 x1 x2 W) (o : Obj) : GS w g x0 x1 x2 (W.alloc o) :=
  let ⟨vs, r1, r2, r3⟩ := h.row
  ⟨⟨vs, r1.alloc o, r2.alloc o, r3⟩, h.bel.alloc h.bel.size o, h.lo⟩
theorem GS.below {w : World} {g : Nat} {x0 x1 x2 : Value} {W W' : World} (h : GS w g x0 x1 x2 W) (hb : Below W.heap.size W W') : GS w g x0 x1 x2 W' :=
  let ⟨vs, r1, r2, r3⟩ := h.row
  ⟨⟨vs, r1.below hb, r2.below hb, r3⟩, h.bel.trans (hb.mono h.bel.size), h.lo⟩
theorem GS.set {w : World} {g : Nat} {x0 x1 x2 : Value} {W : World} (h : GS w g x0 x1 x2 W) (o : Nat) (v : Value) : GS w g x0 x1 x2 (W.setCell ⟨g + 1, o, none⟩ v) :=
  let ⟨vs, r1, r2, r3⟩ := h.row
  ⟨⟨vs.set o v, r1.other (by simp) v, r2.set o v, by rw [List.length_set, r3]⟩, h.bel.setCell (by have := h.lo; simp; omega) v, h.lo⟩
theorem GS.all {w : World} {g : Nat} {x0 x1 x2 : Value} {W : World} (h : GS w g x0 x1 x2 W) : W.cell? ⟨g, 0, none⟩ = some x0 ∧ W.cell? ⟨g, 1, none⟩ = some x1 ∧ W.cell? ⟨g, 2, none⟩ = some x2 ∧ W.cell? ⟨g + 1, 0, none⟩ = some (cv W ⟨g + 1, 0, none⟩) ∧ W.cell? ⟨g + 1, 1, none⟩ = some (cv W ⟨g + 1, 1, none⟩) ∧ W.cell? ⟨g + 1, 2, none⟩ = some (cv W ⟨g + 1, 2, none⟩) ∧ (∀ o, W.frozen? ⟨g + 1, o, none⟩ = false) ∧ GS w g x0 x1 x2 W := by
  obtain ⟨vs, r1, r2, r3⟩ := h.row
  exact ⟨r1.cell (i := 0) (by show 0 < 3; omega), r1.cell (i := 1) (by show 1 < 3; omega), r1.cell (i := 2) (by show 2 < 3; omega), cv_some (r2.cell (i := 0) (by omega)), cv_some (r2.cell (i := 1) (by omega)), cv_some (r2.cell (i := 2) (by omega)), fun o => r2.free o, h⟩
theorem GS.fin {w : World} {g : Nat} {x0 x1 x2 : Value} {W : World} (h : GS w g x0 x1 x2 W) (y0 y1 y2 : Value) :
    (((W.setCell ⟨g + 1, 0, none⟩ y0).setCell ⟨g + 1, 1, none⟩ y1).setCell ⟨g + 1, 2, none⟩ y2).cell? ⟨g + 1, 0, none⟩ = some y0 ∧ (((W.setCell ⟨g + 1, 0, none⟩ y0).setCell ⟨g + 1, 1, none⟩ y1).setCell ⟨g + 1, 2, none⟩ y2).cell? ⟨g + 1, 1, none⟩ = some y1 ∧ (((W.setCell ⟨g + 1, 0, none⟩ y0).setCell ⟨g + 1, 1, none⟩ y1).setCell ⟨g + 1, 2, none⟩ y2).cell? ⟨g + 1, 2, none⟩ = some y2 := by
  obtain ⟨vs, _, r2, r3⟩ := h.row
  have r := ((r2.set 0 y0).set 1 y1).set 2 y2
  obtain ⟨a, b, c, rfl⟩ : ∃ a b c, vs = [a, b, c] := by
    match vs, r3 with
    | [a, b, c], _ => exact ⟨a, b, c, rfl⟩
  exact ⟨r.cell (i := 0) (by simp), r.cell (i := 1) (by simp), r.cell (i := 2) (by simp)⟩
theorem GS.start (w : World) (x0 x1 x2 y0 y1 y2 : Value) : GS w w.heap.size x0 x1 x2 ((w.alloc (.cells #[x0, x1, x2] 24)).alloc (.cells #[y0, y1, y2] 24)) := by
  refine ⟨⟨[y0, y1, y2], Row.alloc (Row.new w _ [x0, x1, x2]) _, ?_, rfl⟩, ((Below.refl _ _).alloc (Nat.le_refl _) _).alloc (by simp) _, Nat.le_refl _⟩
  have := Row.new (w.alloc (.cells #[x0, x1, x2] 24)) 24 [y0, y1, y2]
  simpa using this
theorem IntsAt.alloc {w : World} {A : Option Addr} {n : Nat} {zs : List Int} (h : IntsAt w A n zs) (o : Obj) : IntsAt (w.alloc o) A n zs := h.keep ((Below.refl _ _).alloc (Nat.le_refl _) o)
theorem IntsAt.drew {w : World} {A : Option Addr} {n : Nat} {zs : List Int} (h : IntsAt w A n zs) : IntsAt w.drew A n zs := h
theorem made_at {w : World} {g : Nat} (h : g = w.heap.size) (n : Nat) : IntsAt (w.alloc (.cells (Array.replicate n (Value.int .i64 0)) 3)) (some ⟨g, 0, none⟩) n (List.replicate n 0) := by
  subst h
  have := (IRow.made w n).ints
  rw [List.length_replicate] at this
  exact this

theorem owns_pos {w : World} {base : Nat} {e : TypeId} {A : Option Addr} {n c : Nat} {xs : List Value} (hn : 0 < n) (h : w.ownsRow base e 1 (.slice A n c) n xs) : ∃ g, A = some ⟨g, 0, none⟩ ∧ base ≤ g ∧ g < w.heap.size := by
  rcases h.2 with ⟨_, h0⟩ | ⟨g, cap, cur, h1, h2, h3, _⟩
  · omega
  · injection h1 with h1
    exact ⟨g, h1, h2, lt_of_heap h3⟩
theorem own_keep {w w' : World} {base base' : Nat} {e : TypeId} {v : Value} {n : Nat} {xs : List Value} (h : w.ownsRow base e 1 v n xs) (hb : Below w.heap.size w w') (hle : base' ≤ base) : w'.ownsRow base' e 1 v n xs := by
  refine ⟨h.1, ?_⟩
  rcases h.2 with hz | ⟨g, cap, cur, r1, r2, r3, r4⟩
  · exact .inl hz
  · exact .inr ⟨g, cap, cur, r1, Nat.le_trans hle r2, (hb.block g (lt_of_heap r3)).trans r3, r4⟩
theorem own_set {w : World} {base : Nat} {e : TypeId} {g n c b o : Nat} {v : Value} {xs : List Value} (h : w.ownsRow base e 1 (.slice (some ⟨g, 0, none⟩) n c) n xs) (hne : g ≠ b) : (w.setCell ⟨b, o, none⟩ v).ownsRow base e 1 (.slice (some ⟨g, 0, none⟩) n c) n xs := by
  refine ⟨h.1, ?_⟩
  rcases h.2 with hz | ⟨g', cap, cur, r1, r2, r3, r4⟩
  · exact .inl hz
  · injection r1 with e1 e2 e3
    injection e1 with e1
    injection e1 with e1
    subst e1
    exact .inr ⟨g, cap, cur, by rw [e3], r2, (Below.heap_setCell w _ v g hne).trans r3, r4⟩
theorem nats_rep (l : List Nat) (k : Nat) : (nats l ++ List.replicate k 0).map (Value.int .i64) = (l ++ List.replicate k 0).map (fun j : Nat => Value.int .i64 j) := by
  unfold nats
  simp

set_option maxRecDepth 100000 in
set_option maxHeartbeats 8000000 in
theorem grown_any (d : Pl.Dg) (A B : Option Addr) (cp cq s cs h m m4 : Nat) (ss : List Int) (w : World) (hm : m = 4 * d.n) (hm4 : m4 = 4 * s) (hg : DgAt w A B d) (hs : IntsAt w (some ⟨h, 0, none⟩) s ss) (hn : d.n ≤ 1000) (hs1 : 1 ≤ s) (hs2 : s ≤ 10) :
    Calls Try.prog 78 #[.agg #[.slice A d.n cp, .slice B m cq, .int .i64 d.lp], .slice (some ⟨h, 0, none⟩) s cs] w fun e w' => ∃ g1 c1 g2 c2 : Nat, e = .returned (.agg #[.slice (some ⟨g1, 0, none⟩) (d.n + s) c1, .slice (some ⟨g2, 0, none⟩) (m + m4) c2, .int .i64 d.lp]) ∧
      w'.ownsRow w.heap.size 3 1 (.slice (some ⟨g1, 0, none⟩) (d.n + s) c1) (d.n + s) ((d.sg ++ ss).map (.int .i64)) ∧ OwnN w' w.heap.size g2 (m + m4) c2 (d.mt ++ List.replicate m4 0) ∧ g1 ≠ g2 ∧ Below w.heap.size w w' := by
  have HS := hide hg.s
  have HMT := hide (show IntsAt w B m (nats d.mt) by rw [hm]; exact hg.m)
  have HSS := hide hs
  have HM := hide hm
  have hmm : m ≤ 4000 := by omega
  have hm44 : m4 ≤ 40 := by omega
  have hmk := fun W : World => run_ints m4 (by omega) W
  have h44 : 4 * (s : Int) = (m4 : Int) := by omega
  clear hm hm4 hg hs
  have HGS := hide (GS.start w (.slice A d.n cp) (.slice B m cq) (.int .i64 d.lp) (.slice none 0 0) (.slice none 0 0) (.int .i64 0))
  go_enter Try.func78, Try.ntmps78
  go_wp2
  have hwr : IntKind.i64.wrap (m4 : Int) = (m4 : Int) := IntWalk.i64_in _ (by omega)
  go_region_held3 (fun w' => w'.cell? ⟨w.heap.size, 0, none⟩ = some (.slice A d.n cp) ∧ w'.cell? ⟨w.heap.size, 1, none⟩ = some (.slice B m cq) ∧ w'.cell? ⟨w.heap.size, 2, none⟩ = some (.int .i64 d.lp) ∧ w'.cell? ⟨w.heap.size + 1, 0, none⟩ = some (cv w' ⟨w.heap.size + 1, 0, none⟩) ∧ w'.cell? ⟨w.heap.size + 1, 1, none⟩ = some (cv w' ⟨w.heap.size + 1, 1, none⟩) ∧ w'.cell? ⟨w.heap.size + 1, 2, none⟩ = some (cv w' ⟨w.heap.size + 1, 2, none⟩) ∧ (∀ o, w'.frozen? ⟨w.heap.size + 1, o, none⟩ = false) ∧ GS w w.heap.size (.slice A d.n cp) (.slice B m cq) (.int .i64 d.lp) w')
    ((go_split_ands; refine GS.all ?_; (repeat (first | assumption | (with_reducible exact HGS.out) | (with_reducible refine GS.set ?_ _ _) | (with_reducible refine GS.alloc ?_ _) | (with_reducible refine GS.drew ?_) | (with_reducible refine GS.below ?_ hba) | (with_reducible refine GS.below ?_ hbb)))))
    (first
      | (go_at_call 120
         refine Calls.mono (concat_ex d.n s _ d.sg ss _ (by omega) ?_ ?_) ?_
         · refine ⟨A, cp, ?_, HS.out.keep (GS.bel (g := w.heap.size) (x0 := .slice A d.n cp) (x1 := .slice B m cq) (x2 := .int .i64 d.lp) ?_)⟩
           · first | (go_simp; done) | ((with_reducible refine cell_below ?_ hbb); go_simp; done)
           · repeat (first | assumption | (with_reducible exact HGS.out) | (with_reducible refine GS.set ?_ _ _) | (with_reducible refine GS.alloc ?_ _) | (with_reducible refine GS.drew ?_) | (with_reducible refine GS.below ?_ hba) | (with_reducible refine GS.below ?_ hbb))
         · refine ⟨some ⟨h, 0, none⟩, cs, ?_, HSS.out.keep (GS.bel (g := w.heap.size) (x0 := .slice A d.n cp) (x1 := .slice B m cq) (x2 := .int .i64 d.lp) ?_)⟩
           · first | (go_simp; done) | ((with_reducible refine cell_below ?_ hbb); go_simp; done)
           · repeat (first | assumption | (with_reducible exact HGS.out) | (with_reducible refine GS.set ?_ _ _) | (with_reducible refine GS.alloc ?_ _) | (with_reducible refine GS.drew ?_) | (with_reducible refine GS.below ?_ hba) | (with_reducible refine GS.below ?_ hbb))
         rintro e wa ⟨Aa, ca, rfl, owna, hba⟩)
      | (go_at_call 120
         refine Calls.mono (concat_ex m m4 _ (nats d.mt) (List.replicate m4 0) _ (by omega) ?_ ?_) ?_
         · refine ⟨B, cq, ?_, HMT.out.keep (GS.bel (g := w.heap.size) (x0 := .slice A d.n cp) (x1 := .slice B m cq) (x2 := .int .i64 d.lp) ?_)⟩
           · first | (go_simp; done) | ((with_reducible refine cell_below ?_ hba); go_simp; done)
           · repeat (first | assumption | (with_reducible exact HGS.out) | (with_reducible refine GS.set ?_ _ _) | (with_reducible refine GS.alloc ?_ _) | (with_reducible refine GS.drew ?_) | (with_reducible refine GS.below ?_ hba) | (with_reducible refine GS.below ?_ hbb))
         · refine ⟨?_, m4, ?_, ?_⟩
           rotate_left 1
           · first | (go_simp; rfl) | ((with_reducible refine cell_below ?_ hba); go_simp; rfl)
           · repeat (first | ((with_reducible refine made_at ?_ _); (simp; done)) | (with_reducible refine made_at rfl _) | (with_reducible refine IntsAt.drew ?_) | (with_reducible refine IntsAt.alloc ?_ _) | (with_reducible refine IntsAt.keep ?_ hba))
         rintro e wb ⟨Ab, cb, rfl, ownb, hbb⟩))
  all_goals
    obtain ⟨g1, rfl, b1, l1⟩ := owns_pos (by omega) owna
    obtain ⟨g2, rfl, b2, l2⟩ := owns_pos (by omega) ownb
    go_wp2
    refine bodyPost_ret (v := .agg #[.slice (some ⟨g1, 0, none⟩) (d.n + s) ca, .slice (some ⟨g2, 0, none⟩) (m + m4) cb, .int .i64 d.lp]) ?_ rfl ⟨g1, ca, g2, cb, rfl, ?_, ?_, ?_, ?_⟩
    · first
        | (have hx : GS w w.heap.size (.slice A d.n cp) (.slice B m cq) (.int .i64 d.lp) wb := by
            repeat (first | assumption | (with_reducible exact HGS.out) | (with_reducible refine GS.set ?_ _ _) | (with_reducible refine GS.alloc ?_ _) | (with_reducible refine GS.drew ?_) | (with_reducible refine GS.below ?_ hba) | (with_reducible refine GS.below ?_ hbb))
           obtain ⟨e0, e1, e2⟩ := hx.fin (.slice (some ⟨g1, 0, none⟩) (d.n + s) ca) (.slice (some ⟨g2, 0, none⟩) (m + m4) cb) (.int .i64 d.lp)
           simp [results, Try.results78, go_sem, e0, e1, e2]
           done)
        | (have hx : GS w w.heap.size (.slice A d.n cp) (.slice B m cq) (.int .i64 d.lp) wa := by
            repeat (first | assumption | (with_reducible exact HGS.out) | (with_reducible refine GS.set ?_ _ _) | (with_reducible refine GS.alloc ?_ _) | (with_reducible refine GS.drew ?_) | (with_reducible refine GS.below ?_ hba) | (with_reducible refine GS.below ?_ hbb))
           obtain ⟨e0, e1, e2⟩ := hx.fin (.slice (some ⟨g1, 0, none⟩) (d.n + s) ca) (.slice (some ⟨g2, 0, none⟩) (m + m4) cb) (.int .i64 d.lp)
           simp [results, Try.results78, go_sem, e0, e1, e2]
           done)
    · simp at b1 b2
      refine own_set (own_set (own_set ?_ (by omega)) (by omega)) (by omega)
      first
        | (refine own_keep owna (Below.refl _ _) ?_; first | omega | (simp; done) | (simp; omega))
        | (refine own_keep owna (Below.trans ?_ (hbb.mono ?_)) ?_; all_goals (repeat (first | exact Below.refl _ _ | (with_reducible refine Below.drew ?_) | (with_reducible refine Below.alloc ?_ ?_ _) | omega | (simp; done) | (simp; omega))))
    · simp at b1 b2
      unfold OwnN
      rw [← nats_rep]
      refine own_set (own_set (own_set ?_ (by omega)) (by omega)) (by omega)
      first
        | (refine own_keep ownb (Below.refl _ _) ?_; first | omega | (simp; done) | (simp; omega))
        | (refine own_keep ownb (Below.trans ?_ (hba.mono ?_)) ?_; all_goals (repeat (first | exact Below.refl _ _ | (with_reducible refine Below.drew ?_) | (with_reducible refine Below.alloc ?_ ?_ _) | omega | (simp; done) | (simp; omega))))
    · simp at b1 b2
      omega
    · refine GS.bel (g := w.heap.size) (x0 := .slice A d.n cp) (x1 := .slice B m cq) (x2 := .int .i64 d.lp) ?_
      repeat (first | assumption | (with_reducible exact HGS.out) | (with_reducible refine GS.set ?_ _ _) | (with_reducible refine GS.alloc ?_ _) | (with_reducible refine GS.drew ?_) | (with_reducible refine GS.below ?_ hba) | (with_reducible refine GS.below ?_ hbb))
end Go.Proofs.Ytobbepmlmbbamaa
end

section
/-
  Walks: a kink is added.
-/
namespace Go.Proofs.Ytobbepmlmbbamaa
open Go.RowKit

theorem bcell {W w1 : World} (hb : Below W.heap.size W w1) : (∀ b o, b < W.heap.size → w1.cell? ⟨b, o, none⟩ = W.cell? ⟨b, o, none⟩) ∧ (∀ b o, b < W.heap.size → w1.frozen? ⟨b, o, none⟩ = W.frozen? ⟨b, o, none⟩) :=
  ⟨fun b o h => hb.cell (p := ⟨b, o, none⟩) h, fun b o h => hb.frozen (p := ⟨b, o, none⟩) h⟩
/-- A move, as its value. -/
structure Mv where
  kind : Int
  x : Int
  y : Int
  sign : Int
  over : Bool
def Mv.v (m : Mv) : Value := .agg #[.int .i64 m.kind, .int .i64 m.x, .int .i64 m.y, .int .i64 m.sign, .bool m.over]

/-- What curlable answers. -/
def fullC (n k : Nat) : Int := if 64 < n + k then 5 else 0
def curlableC (d : Pl.Dg) (x : Int) : Int := if x < 0 then (if d.lp = 0 then 6 else fullC d.n 1) else if Pl.out d x.toNat = true then fullC d.n 1 else 6
set_option maxRecDepth 100000 in
set_option maxHeartbeats 2000000 in
theorem curlable_any (d : Pl.Dg) (A B : Option Addr) (cp cq : Nat) (k x y sg : Int) (ov : Bool) (w : World) (hg : DgAt w A B d) (hn : d.n ≤ 64) (hlp : d.lp ≤ 64) (hx : -1 ≤ x ∧ x < 4 * d.n) :
    Calls Try.prog 77 #[.agg #[.slice A d.n cp, .slice B (4 * d.n) cq, .int .i64 d.lp], .agg #[.int .i64 k, .int .i64 x, .int .i64 y, .int .i64 sg, .bool ov]] w fun e w' => e = .returned (.int .i64 (curlableC d x)) ∧ Below w.heap.size w w' := by
  obtain ⟨m, hm⟩ : ∃ m, m = 4 * d.n := ⟨_, rfl⟩
  rw [← hm]
  have HM := hide hm
  clear hm
  have b0 : Below w.heap.size w ((w.alloc (.cells #[.slice A d.n cp, .slice B m cq, .int .i64 d.lp] 24)).alloc (.cells #[.int .i64 k, .int .i64 x, .int .i64 y, .int .i64 sg, .bool ov] 28)) := ((Below.refl _ _).alloc (Nat.le_refl _) _).alloc (by simp) _
  have HS := hide (hg.s.keep b0)
  clear hg
  by_cases hx0 : 0 ≤ x
  · obtain ⟨q, rfl⟩ := Int.eq_ofNat_of_zero_le hx0
    have hq : q < 4 * d.n := by omega
    have t1 : decide (0 ≤ (q : Int)) = true := by simp
    go_enter Try.func77, Try.ntmps77
    go_wp2_with fail
    refine (out2_n d A B d.n cp m cq (.int .i64 d.lp) q _ rfl hq (by omega) HS.out).mono ?_
    rintro e w1 ⟨rfl, hb1⟩
    have b1 := b0.trans (hb1.mono b0.size)
    obtain ⟨hc, hf⟩ := bcell hb1
    have hsz : w.heap.size + 1 < w1.heap.size := by have := hb1.size; simp at this; omega
    have e0 : curlableC d (q : Int) = if Pl.out d q = true then fullC d.n 1 else 6 := by unfold curlableC; rw [if_neg (by omega), Int.toNat_natCast]
    have E0 := hide e0
    clear e0
    clear t1
    go_wp2
    all_goals
      go_ret
      refine ⟨ret_int ?_, b1⟩
      rw [E0.out]
      unfold fullC
      repeat' split
      all_goals first | omega | (exfalso; first | omega | (simp_all; done))
  · go_enter Try.func77, Try.ntmps77
    go_wp2
    all_goals
      go_ret
      refine ⟨ret_int ?_, b0⟩
      unfold curlableC fullC
      rw [if_pos (by omega)]
      simp only [beq_iff_eq, beq_eq_false_iff_ne, ne_eq] at *
      repeat' split
      all_goals omega
theorem curlable_m (d : Pl.Dg) (A B : Option Addr) (cp cq m : Nat) (k x y sg : Int) (ov : Bool) (w : World) (hm : m = 4 * d.n) (hg : DgAt w A B d) (hn : d.n ≤ 64) (hlp : d.lp ≤ 64) (hx : -1 ≤ x ∧ x < 4 * d.n) :
    Calls Try.prog 77 #[.agg #[.slice A d.n cp, .slice B m cq, .int .i64 d.lp], .agg #[.int .i64 k, .int .i64 x, .int .i64 y, .int .i64 sg, .bool ov]] w fun e w' => e = .returned (.int .i64 (curlableC d x)) ∧ Below w.heap.size w w' := by
  subst hm; exact curlable_any d A B cp cq k x y sg ov w hg hn hlp hx
end Go.Proofs.Ytobbepmlmbbamaa
end

section
/-
  A diagram and a move that came in, opened.
-/
namespace Go.Proofs.Ytobbepmlmbbamaa
open Go Go.ChangeShapes Go.WideShapes Go.ChangeAt Go.RowKit Go.Deep

theorem spot_noneM {w : World} {a : Addr} {v : Value} (h : w.cell? a = some v) : a = ⟨a.block, a.off, none⟩ := by
  obtain ⟨b, o, sp⟩ := a
  cases sp with
  | none => rfl
  | some s =>
    unfold World.cell? at h
    simp only at h
    split at h
    · simp at h
    · cases h
theorem addr_formM {w : World} {a : Addr} {v : Value} (h : w.cell? (a.add 0) = some v) : ∃ b o, a = ⟨b, o, none⟩ := ⟨_, _, spot_noneM h⟩
section
variable {H : Type} {enc : TypeId × Value → H} {w : World} {base : Nat} {spare : Nat → Bool} {held : Bool} {fuel : Nat}
theorem ints_of_trod {v : Value} {y : DataW H × List MemPlace} (h : DataW.trod enc Try.prog w base spare held fuel 22 [v] = some y) : ∃ (A : Option Addr) (n c : Nat) (xs : List Int), v = .slice A n c ∧ n ≤ maxLen ∧ IntsAt w A n xs := by
  rcases open_ints Try.underlying22 Try.underlying3 (by kernel_rfl) h with ⟨h1, _⟩ | ⟨a, len, cap, zs, h1, _, hl, hm, hsl, _, hc, _⟩
  · obtain rfl : v = .slice none 0 0 := by simpa using h1
    exact ⟨none, 0, 0, [], rfl, by unfold maxLen; omega, RowAt.nil w⟩
  · obtain rfl : v = .slice (some a) len cap := by simpa using h1
    have hle : len ≤ zs.length := by rw [hsl]; split <;> omega
    refine ⟨some a, len, cap, zs.take len, rfl, by omega, by simp; omega, fun hn => ?_⟩
    obtain ⟨b, o, rfl⟩ := addr_formM (hc 0 (by omega))
    refine ⟨b, o, rfl, fun j u hu => ?_⟩
    rw [List.getElem?_map] at hu
    obtain ⟨s, hs, rfl⟩ := Option.map_eq_some_iff.1 hu
    have hj : j < len := by
      rcases Nat.lt_or_ge j len with h | h
      · exact h
      · rw [List.getElem?_eq_none (by simp; omega)] at hs; cases hs
    have := hc j (by omega)
    rw [Addr.add_lit] at this
    rw [this]
    rw [List.getElem?_take_of_lt hj] at hs
    rw [List.getD_eq_getElem?_getD, hs]
    rfl
theorem int_of_trod {v : Value} {y : DataW H × List MemPlace} (h : DataW.trod enc Try.prog w base spare held fuel 3 [v] = some y) : ∃ n : Int, v = .int .i64 n ∧ -9223372036854775808 ≤ n ∧ n ≤ 9223372036854775807 := by
  obtain ⟨n, h1, _, hw⟩ := DataW.trod_int Try.underlying3 h
  obtain rfl : v = .int .i64 n := by simpa using h1
  refine ⟨n, rfl, ?_⟩
  simp only [Lit.wf, Bool.and_eq_true, decide_eq_true_eq] at hw
  have h1 : (IntKind.i64.min : Int) = -9223372036854775808 := by rfl
  have h2 : (IntKind.i64.max : Int) = 9223372036854775807 := by rfl
  rw [h1, h2] at hw
  exact hw
theorem bool_of_trod {v : Value} {y : DataW H × List MemPlace} (h : DataW.trod enc Try.prog w base spare held fuel 4 [v] = some y) : ∃ b : Bool, v = .bool b := by
  obtain ⟨b, h1, _⟩ := DataW.trod_bool Try.underlying4 h
  exact ⟨b, by simpa using h1⟩
set_option maxRecDepth 100000 in
theorem open_dg {r : Reach} {b0 : Nat} {v : Value} {d : DataW H} {p : List MemPlace} (hval : Value.okWide Try.prog w r b0 24 v) (h : DataW.Trod enc Try.prog w base spare held 24 v d p) :
    ∃ (A B : Option Addr) (n q cp cq : Nat) (sg mt : List Int) (lp : Int), v = .agg #[.slice A n cp, .slice B q cq, .int .i64 lp] ∧ n ≤ maxLen ∧ q ≤ maxLen ∧ IntsAt w A n sg ∧ IntsAt w B q mt ∧ -9223372036854775808 ≤ lp ∧ lp ≤ 9223372036854775807 := by
  obtain ⟨cs, rfl, hsz⟩ := okWide_struct Try.underlying24 hval
  obtain ⟨fuel, hf⟩ := h
  obtain ⟨c0, c1, c2, rfl⟩ : ∃ c0 c1 c2, cs = #[c0, c1, c2] := by
    have h3 : cs.size = 3 := hsz.trans (by kernel_rfl)
    obtain ⟨l⟩ := cs
    match l, h3 with
    | [a, b, c], _ => exact ⟨a, b, c, rfl⟩
  have hf' : DataW.trod enc Try.prog w base spare held fuel 24 [c0, c1, c2] = some (d, p) := hf
  obtain ⟨xs, n', _, _, _, hxl, hfld⟩ := DataW.trod_struct Try.underlying24 hf'
  have c22 : Try.prog.cellsOf 22 = 1 := by kernel_rfl
  have c3 : Try.prog.cellsOf 3 = 1 := by kernel_rfl
  have g0 : DataW.trod enc Try.prog w base spare held n' 22 (([c0, c1, c2].drop 0).take (Try.prog.cellsOf 22)) = xs[0]? := hfld 0 _ rfl
  have g1 : DataW.trod enc Try.prog w base spare held n' 22 (([c0, c1, c2].drop 1).take (Try.prog.cellsOf 22)) = xs[1]? := hfld 1 _ rfl
  have g2 : DataW.trod enc Try.prog w base spare held n' 3 (([c0, c1, c2].drop 2).take (Try.prog.cellsOf 3)) = xs[2]? := hfld 2 _ rfl
  rw [c22] at g0 g1
  rw [c3] at g2
  simp only [List.drop_zero, List.drop_succ_cons, List.take_succ_cons, List.take_zero] at g0 g1 g2
  have x0 : xs[0]? = some (xs[0]'(by rw [hxl]; decide)) := List.getElem?_eq_getElem _
  have x1 : xs[1]? = some (xs[1]'(by rw [hxl]; decide)) := List.getElem?_eq_getElem _
  have x2 : xs[2]? = some (xs[2]'(by rw [hxl]; decide)) := List.getElem?_eq_getElem _
  rw [x0] at g0
  rw [x1] at g1
  rw [x2] at g2
  obtain ⟨A, n, cp, sg, rfl, hn, hs⟩ := ints_of_trod g0
  obtain ⟨B, q, cq, mt, rfl, hq, hm⟩ := ints_of_trod g1
  obtain ⟨lp, rfl, h1, h2⟩ := int_of_trod g2
  exact ⟨A, B, n, q, cp, cq, sg, mt, lp, rfl, hn, hq, hs, hm, h1, h2⟩
set_option maxRecDepth 100000 in
theorem open_mv {r : Reach} {b0 : Nat} {v : Value} {d : DataW H} {p : List MemPlace} (hval : Value.okWide Try.prog w r b0 28 v) (h : DataW.Trod enc Try.prog w base spare held 28 v d p) :
    ∃ (k x y s : Int) (o : Bool), v = (Mv.mk k x y s o).v := by
  obtain ⟨cs, rfl, hsz⟩ := okWide_struct Try.underlying28 hval
  obtain ⟨fuel, hf⟩ := h
  obtain ⟨c0, c1, c2, c3', c4, rfl⟩ : ∃ c0 c1 c2 c3 c4, cs = #[c0, c1, c2, c3, c4] := by
    have h3 : cs.size = 5 := hsz.trans (by kernel_rfl)
    obtain ⟨l⟩ := cs
    match l, h3 with
    | [a, b, c, d, e], _ => exact ⟨a, b, c, d, e, rfl⟩
  have hf' : DataW.trod enc Try.prog w base spare held fuel 28 [c0, c1, c2, c3', c4] = some (d, p) := hf
  obtain ⟨xs, n', _, _, _, hxl, hfld⟩ := DataW.trod_struct Try.underlying28 hf'
  have e4 : Try.prog.cellsOf 4 = 1 := by kernel_rfl
  have e3 : Try.prog.cellsOf 3 = 1 := by kernel_rfl
  have g0 : DataW.trod enc Try.prog w base spare held n' 3 (([c0, c1, c2, c3', c4].drop 0).take (Try.prog.cellsOf 3)) = xs[0]? := hfld 0 _ rfl
  have g1 : DataW.trod enc Try.prog w base spare held n' 3 (([c0, c1, c2, c3', c4].drop 1).take (Try.prog.cellsOf 3)) = xs[1]? := hfld 1 _ rfl
  have g2 : DataW.trod enc Try.prog w base spare held n' 3 (([c0, c1, c2, c3', c4].drop 2).take (Try.prog.cellsOf 3)) = xs[2]? := hfld 2 _ rfl
  have g3 : DataW.trod enc Try.prog w base spare held n' 3 (([c0, c1, c2, c3', c4].drop 3).take (Try.prog.cellsOf 3)) = xs[3]? := hfld 3 _ rfl
  have g4 : DataW.trod enc Try.prog w base spare held n' 4 (([c0, c1, c2, c3', c4].drop 4).take (Try.prog.cellsOf 4)) = xs[4]? := hfld 4 _ rfl
  rw [e3] at g0 g1 g2 g3
  rw [e4] at g4
  simp only [List.drop_zero, List.drop_succ_cons, List.take_succ_cons, List.take_zero] at g0 g1 g2 g3 g4
  have x0 : xs[0]? = some (xs[0]'(by rw [hxl]; decide)) := List.getElem?_eq_getElem _
  have x1 : xs[1]? = some (xs[1]'(by rw [hxl]; decide)) := List.getElem?_eq_getElem _
  have x2 : xs[2]? = some (xs[2]'(by rw [hxl]; decide)) := List.getElem?_eq_getElem _
  have x3 : xs[3]? = some (xs[3]'(by rw [hxl]; decide)) := List.getElem?_eq_getElem _
  have x4 : xs[4]? = some (xs[4]'(by rw [hxl]; decide)) := List.getElem?_eq_getElem _
  rw [x0] at g0
  rw [x1] at g1
  rw [x2] at g2
  rw [x3] at g3
  rw [x4] at g4
  obtain ⟨k, rfl, _⟩ := int_of_trod g0
  obtain ⟨x, rfl, _⟩ := int_of_trod g1
  obtain ⟨y, rfl, _⟩ := int_of_trod g2
  obtain ⟨s, rfl, _⟩ := int_of_trod g3
  obtain ⟨o, rfl⟩ := bool_of_trod g4
  exact ⟨k, x, y, s, o, rfl⟩
end
end Go.Proofs.Ytobbepmlmbbamaa
end
