/-
  Walks: uncurl (what it keeps; what it answers).
-/
import Derived.Test.YtobbepmlmbbamaaWl
import Derived.Deep.RegionHeld3
import Derived.Deep.DrawnRows
set_option linter.unusedVariables false
set_option linter.unusedSimpArgs false
namespace Go.Proofs.Ytobbepmlmbbamaa
open Go Go.RowKit

/-- What stays while two results are written: the diagram's box b, the inverse move's box gi; the results' boxes. -/
structure UC (w : World) (gi : Nat) (x0 x1 x2 y0 y1 y2 y3 y4 : Value) (W : World) : Prop where
  d : Row W w.heap.size 24 [x0, x1, x2]
  i : Row W gi 28 [y0, y1, y2, y3, y4]
  rd : ∃ vs, Row W (w.heap.size + 1 + 1) 24 vs ∧ vs.length = 3
  rm : ∃ us, Row W (w.heap.size + 1 + 1 + 1) 28 us ∧ us.length = 5
  bel : Below w.heap.size w W
  lo : w.heap.size + 1 + 1 + 1 < gi
section
variable {w : World} {gi : Nat} {x0 x1 x2 y0 y1 y2 y3 y4 : Value} {W W' : World}
theorem UC.drew (h : UC w gi x0 x1 x2 y0 y1 y2 y3 y4 W) : UC w gi x0 x1 x2 y0 y1 y2 y3 y4 W.drew := ⟨h.d, h.i, h.rd, h.rm, h.bel.drew, h.lo⟩
theorem UC.below (h : UC w gi x0 x1 x2 y0 y1 y2 y3 y4 W) (hb : Below W.heap.size W W') : UC w gi x0 x1 x2 y0 y1 y2 y3 y4 W' :=
  let ⟨vs, r1, l1⟩ := h.rd
  let ⟨us, r2, l2⟩ := h.rm
  ⟨h.d.below hb, h.i.below hb, ⟨vs, r1.below hb, l1⟩, ⟨us, r2.below hb, l2⟩, h.bel.trans (hb.mono h.bel.size), h.lo⟩
theorem UC.alloc (h : UC w gi x0 x1 x2 y0 y1 y2 y3 y4 W) (o : Obj) : UC w gi x0 x1 x2 y0 y1 y2 y3 y4 (W.alloc o) := h.below ((Below.refl _ _).alloc (Nat.le_refl _) o)
theorem UC.setD (h : UC w gi x0 x1 x2 y0 y1 y2 y3 y4 W) (o : Nat) (v : Value) : UC w gi x0 x1 x2 y0 y1 y2 y3 y4 (W.setCell ⟨w.heap.size + 1 + 1, o, none⟩ v) :=
  let ⟨vs, r1, l1⟩ := h.rd
  let ⟨us, r2, l2⟩ := h.rm
  have hl := h.lo
  ⟨h.d.other (by show _ ≠ w.heap.size + 1 + 1; omega) v, h.i.other (by show _ ≠ w.heap.size + 1 + 1; omega) v, ⟨vs.set o v, r1.set o v, by rw [List.length_set, l1]⟩, ⟨us, r2.other (by show _ ≠ w.heap.size + 1 + 1; omega) v, l2⟩, h.bel.setCell (by show _ ≤ w.heap.size + 1 + 1; omega) v, h.lo⟩
theorem UC.setM (h : UC w gi x0 x1 x2 y0 y1 y2 y3 y4 W) (o : Nat) (v : Value) : UC w gi x0 x1 x2 y0 y1 y2 y3 y4 (W.setCell ⟨w.heap.size + 1 + 1 + 1, o, none⟩ v) :=
  let ⟨vs, r1, l1⟩ := h.rd
  let ⟨us, r2, l2⟩ := h.rm
  have hl := h.lo
  ⟨h.d.other (by show _ ≠ w.heap.size + 1 + 1 + 1; omega) v, h.i.other (by show _ ≠ w.heap.size + 1 + 1 + 1; omega) v, ⟨vs, r1.other (by show _ ≠ w.heap.size + 1 + 1 + 1; omega) v, l1⟩, ⟨us.set o v, r2.set o v, by rw [List.length_set, l2]⟩, h.bel.setCell (by show _ ≤ w.heap.size + 1 + 1 + 1; omega) v, h.lo⟩
theorem UC.all (h : UC w gi x0 x1 x2 y0 y1 y2 y3 y4 W) : W.cell? ⟨w.heap.size, 0, none⟩ = some x0 ∧ W.cell? ⟨gi, 0, none⟩ = some y0 ∧ W.cell? ⟨gi, 1, none⟩ = some y1 ∧ W.cell? ⟨gi, 2, none⟩ = some y2 ∧ W.cell? ⟨gi, 3, none⟩ = some y3 ∧ W.cell? ⟨gi, 4, none⟩ = some y4 ∧
    W.cell? ⟨w.heap.size + 1 + 1, 0, none⟩ = some (cv W ⟨w.heap.size + 1 + 1, 0, none⟩) ∧ W.cell? ⟨w.heap.size + 1 + 1, 1, none⟩ = some (cv W ⟨w.heap.size + 1 + 1, 1, none⟩) ∧ W.cell? ⟨w.heap.size + 1 + 1, 2, none⟩ = some (cv W ⟨w.heap.size + 1 + 1, 2, none⟩) ∧
    W.cell? ⟨w.heap.size + 1 + 1 + 1, 0, none⟩ = some (cv W ⟨w.heap.size + 1 + 1 + 1, 0, none⟩) ∧ W.cell? ⟨w.heap.size + 1 + 1 + 1, 1, none⟩ = some (cv W ⟨w.heap.size + 1 + 1 + 1, 1, none⟩) ∧ W.cell? ⟨w.heap.size + 1 + 1 + 1, 2, none⟩ = some (cv W ⟨w.heap.size + 1 + 1 + 1, 2, none⟩) ∧ W.cell? ⟨w.heap.size + 1 + 1 + 1, 3, none⟩ = some (cv W ⟨w.heap.size + 1 + 1 + 1, 3, none⟩) ∧ W.cell? ⟨w.heap.size + 1 + 1 + 1, 4, none⟩ = some (cv W ⟨w.heap.size + 1 + 1 + 1, 4, none⟩) ∧
    (∀ o, W.frozen? ⟨w.heap.size + 1 + 1, o, none⟩ = false) ∧ (∀ o, W.frozen? ⟨w.heap.size + 1 + 1 + 1, o, none⟩ = false) ∧ UC w gi x0 x1 x2 y0 y1 y2 y3 y4 W := by
  obtain ⟨vs, r1, l1⟩ := h.rd
  obtain ⟨us, r2, l2⟩ := h.rm
  obtain ⟨d0, _, _, _⟩ := box3 h.d
  obtain ⟨i0, i1, i2, i3, i4, _⟩ := box5 h.i
  exact ⟨d0, i0, i1, i2, i3, i4, cv_some (r1.cell (i := 0) (by omega)), cv_some (r1.cell (i := 1) (by omega)), cv_some (r1.cell (i := 2) (by omega)), cv_some (r2.cell (i := 0) (by omega)), cv_some (r2.cell (i := 1) (by omega)), cv_some (r2.cell (i := 2) (by omega)), cv_some (r2.cell (i := 3) (by omega)), cv_some (r2.cell (i := 4) (by omega)), r1.free, r2.free, h⟩
end
theorem own_ints' {w : World} {base : Nat} {e : TypeId} {A : Option Addr} {n c : Nat} {zs : List Int} (h : w.ownsRow base e 1 (.slice A n c) n (zs.map (.int .i64))) : IntsAt w A n zs := by
  have hl := h.1
  rcases h.2 with ⟨h1, h2⟩ | ⟨g, cap, cur, h1, _⟩
  · subst h2
    exact ⟨by simpa using hl, fun h => absurd h (by omega)⟩
  · injection h1 with h1 _ h3
    subst h1
    exact own_ints h
theorem map_nats (l : List Nat) : (nats l).map (Value.int .i64) = l.map (fun k : Nat => Value.int .i64 k) := by unfold nats; rw [List.map_map]; rfl
theorem getD_m {d : Pl.Dg} {k : Nat} (hk : k < d.mt.length) : d.mt.getD k 0 = d.m k := by
  unfold Pl.Dg.m
  rw [List.getD_eq_getElem?_getD, List.getD_eq_getElem?_getD, List.getElem?_eq_getElem hk]; rfl
theorem getD_le {d : Pl.Dg} (hd : Pl.Wf d) (h : Nat) : d.mt.getD h 0 ≤ 256 := by
  have hn := hd.few
  have hl := hd.len
  by_cases hh : h < d.mt.length
  · rw [getD_m hh]
    have := hd.lt h (by omega)
    omega
  · rw [List.getD_eq_getElem?_getD, List.getElem?_eq_none (by omega)]
    exact Nat.zero_le _
theorem set_le {l : List Nat} {N a b : Nat} (h : ∀ k, l.getD k 0 ≤ N) (hb : b ≤ N) : ∀ k, (l.set a b).getD k 0 ≤ N := by
  intro k
  have hk := h k
  rw [List.getD_eq_getElem?_getD] at hk ⊢
  rw [List.getElem?_set]
  split
  · split
    · simpa using hb
    · simp
  · exact hk
theorem jn_le {l : List Nat} {N a b : Nat} (h : ∀ k, l.getD k 0 ≤ N) (ha : a ≤ N) (hb : b ≤ N) : ∀ k, (jn l a b).getD k 0 ≤ N := set_le (set_le h hb) ha

/-- The outer ends of the kink; what uncurl answers. -/
def kA (d : Pl.Dg) (c : Nat) : Nat := Pl.tn (kk d c) 2
def kB (d : Pl.Dg) (c : Nat) : Nat := Pl.tn (d.m (kk d c)) 2
def uncC (d : Pl.Dg) (c : Nat) : Int := if d.m (kk d c) / 4 = c then (if d.m (kA d c) = kB d c then (if 64 < d.lp + 1 then 5 else 0) else 0) else 6
def unM (d : Pl.Dg) (c : Nat) : List Nat := if d.m (kA d c) = kB d c then d.mt else jn d.mt (d.m (kA d c)) (d.m (kB d c))
def unD (d : Pl.Dg) (c : Nat) : Pl.Dg := ⟨Pl.shrS [c] d.sg, Pl.shrM [c] d.n (unM d c), if d.m (kA d c) = kB d c then d.lp + 1 else d.lp⟩
def unI (d : Pl.Dg) (c : Nat) : Mv := ⟨1, if d.m (kA d c) = kB d c then -1 else (Pl.shf [c] (d.m (kA d c)) : Nat), 0, d.s c, decide (kA d c % 2 = 1)⟩
def UncPost (d : Pl.Dg) (c : Nat) (w : World) (e : Ending) (w' : World) : Prop := (uncC d c ≠ 0 → ResErr (uncC d c) e) ∧ (uncC d c = 0 → ResOk (unD d c) (unI d c) e w') ∧ Below w.heap.size w w'
theorem kk_lt {d : Pl.Dg} {c : Nat} (hc : c < d.n) : kk d c < 4 * d.n := by unfold kk; split <;> (try split) <;> omega
theorem kA_lt {d : Pl.Dg} {c : Nat} (hc : c < d.n) : kA d c < 4 * d.n := Pl.tn_lt (kk_lt hc)
theorem kB_lt {d : Pl.Dg} (hd : Pl.Wf d) {c : Nat} (hc : c < d.n) : kB d c < 4 * d.n := Pl.tn_lt (hd.lt _ (kk_lt hc))
theorem shrunk_sl (gs : List Nat) (sg : List Int) (mt : List Nat) (lp : Int) (A B C : Option Addr) (n q r cp cq cr : Nat) (w : World) (hs : IntsAt w A n sg) (hm : IntsAt w B q (nats mt)) (hg : IntsAt w C r (nats gs)) (hf : Pl.Few gs)
    (hq : q = 4 * n) (hcq : q ≤ cq) (hcq2 : cq ≤ maxLen) (hn : n ≤ 100) (hr : 1 ≤ r ∧ r ≤ 100) (hmt : ∀ h, mt.getD h 0 ≤ 1000) :
    Calls Try.prog 83 #[.slice A n cp, .slice B q cq, .int .i64 lp, .slice C r cr] w fun e w' => ∃ (A7 A8 : Option Addr) (c7 c8 : Nat), e = .returned (.agg #[.slice A7 (Pl.left sg.length gs).length c7, .slice A8 (4 * (Pl.left sg.length gs).length) c8, .int .i64 lp]) ∧
      w'.ownsRow (w.heap.size + 2) 3 1 (.slice A7 (Pl.left sg.length gs).length c7) (Pl.left sg.length gs).length ((Pl.shrS gs sg).map (.int .i64)) ∧ w'.ownsRow (w.heap.size + 2) 3 1 (.slice A8 (4 * (Pl.left sg.length gs).length) c8) (4 * (Pl.left sg.length gs).length) ((Pl.shrM gs sg.length mt).map (fun k : Nat => Value.int .i64 k)) ∧ Below w.heap.size w w' := by
  refine (shrunk_any gs sg mt lp A B C n q r cp cq cr w hs hm hg hf hq hcq hcq2 hn hr hmt).mono ?_
  rintro e w' ⟨vS, vM, rfl, o1, o2, hb⟩
  obtain ⟨A7, c7, rfl⟩ := owns_slice o1
  obtain ⟨A8, c8, rfl⟩ := owns_slice o2
  exact ⟨A7, A8, c7, c8, rfl, o1, o2, hb⟩
/-- The four boxes that a move's function begins with. -/
def W4 (w : World) (x0 x1 x2 y0 y1 y2 y3 y4 : Value) : World := ((((w.alloc (.cells #[x0, x1, x2] 24)).alloc (.cells #[y0, y1, y2, y3, y4] 28)).alloc (.cells #[.slice none 0 0, .slice none 0 0, .int .i64 0] 24)).alloc (.cells #[.int .i64 0, .int .i64 0, .int .i64 0, .int .i64 0, .bool false] 28))
theorem row_at {W : World} {t : TypeId} {vs : List Value} {g : Nat} (h : g = W.heap.size) : Row (W.alloc (.cells vs.toArray t)) g t vs := by subst h; exact Row.new W t vs
theorem boxes4 (w : World) (x0 x1 x2 y0 y1 y2 y3 y4 : Value) :
    Row (W4 w x0 x1 x2 y0 y1 y2 y3 y4) w.heap.size 24 [x0, x1, x2] ∧ Row (W4 w x0 x1 x2 y0 y1 y2 y3 y4) (w.heap.size + 1) 28 [y0, y1, y2, y3, y4] ∧ Row (W4 w x0 x1 x2 y0 y1 y2 y3 y4) (w.heap.size + 1 + 1) 24 [.slice none 0 0, .slice none 0 0, .int .i64 0] ∧
    Row (W4 w x0 x1 x2 y0 y1 y2 y3 y4) (w.heap.size + 1 + 1 + 1) 28 [.int .i64 0, .int .i64 0, .int .i64 0, .int .i64 0, .bool false] ∧ Below w.heap.size w (W4 w x0 x1 x2 y0 y1 y2 y3 y4) ∧ (W4 w x0 x1 x2 y0 y1 y2 y3 y4).heap.size = w.heap.size + 4 := by
  unfold W4
  refine ⟨(((row_at (vs := [x0, x1, x2]) rfl).alloc _).alloc _).alloc _, ((row_at (vs := [y0, y1, y2, y3, y4]) (by simp)).alloc _).alloc _, (row_at (vs := [.slice none 0 0, .slice none 0 0, .int .i64 0]) (by simp)).alloc _, row_at (vs := [.int .i64 0, .int .i64 0, .int .i64 0, .int .i64 0, .bool false]) (by simp), ?_, by simp⟩
  exact ((((Below.refl _ _).alloc (Nat.le_refl _) _).alloc (by simp) _).alloc (by simp; omega) _).alloc (by simp; omega) _
end Go.Proofs.Ytobbepmlmbbamaa
