/-
  The texts Lab, Row, Grow, Wd in one.
-/
import Derived.Test.YtobbepmlmbbamaaBAV02
import Derived.Test.YtobbepmlmbbamaaRows
import Derived.Laws.MakeOwn
import Derived.Laws.Rows
import Derived.Laws.OwnMore
import Derived.Shelf.Spec.SlicesGrow
import Derived.Test.YtobbepmlmbbamaaBAV01
import Derived.Deep.LoopGhost
set_option linter.unusedVariables false
set_option linter.unusedSimpArgs false

section
/-
  Plain Lean: the graph components of a diagram, found by a queue. No program is named here.
-/
namespace Go.Proofs.Ytobbepmlmbbamaa.Pl

/-- The label of a crossing. -/
def pv (ps : List Int) (a : Nat) : Int := ps.getD a 0
theorem pv_set {ps : List Int} {i : Nat} (hi : i < ps.length) (v : Int) (a : Nat) : pv (ps.set i v) a = if a = i then v else pv ps a := by
  unfold pv
  rw [List.getD_eq_getElem?_getD, List.getD_eq_getElem?_getD, List.getElem?_set]
  by_cases h : i = a
  · subst h; simp [hi]
  · rw [if_neg h, if_neg (fun e => h e.symm)]
def unl (ps : List Int) : Nat := ps.countP (fun z => decide (z < 0))
theorem unl_set {ps : List Int} {i : Nat} (hi : i < ps.length) (hn : pv ps i < 0) {v : Int} (hv : 0 ≤ v) : unl (ps.set i v) + 1 = unl ps := by
  have e : pv ps i = ps[i] := by unfold pv; rw [List.getD_eq_getElem?_getD, List.getElem?_eq_getElem hi]; rfl
  have hp : 0 < unl ps := by
    unfold unl
    rw [List.countP_pos_iff]
    exact ⟨ps[i], List.getElem_mem hi, by rw [← e]; simpa using hn⟩
  unfold unl at hp ⊢
  rw [List.countP_set hi]
  have h1 : decide (ps[i] < 0) = true := by rw [← e]; simpa using hn
  have h2 : decide (v < 0) = false := by simpa using hv
  rw [h1, h2]
  simp only [if_true, Bool.false_eq_true, if_false]
  omega

theorem fill_set {k n : Nat} (h : k < n) : (List.replicate k (-1 : Int) ++ List.replicate (n - k) 0).set k (-1) = List.replicate (k + 1) (-1) ++ List.replicate (n - (k + 1)) 0 := by
  refine List.ext_getElem (by simp; omega) (fun i h1 h2 => ?_)
  simp only [List.getElem_set, List.getElem_append, List.getElem_replicate, List.length_replicate]
  split <;> split <;> (try split) <;> omega
variable {d : Dg}
/-- The crossing at the other end of an edge. -/
def nb (d : Dg) (a t : Nat) : Nat := d.m (4 * a + t) / 4
theorem nb_lt (hd : Wf d) {a t : Nat} (ha : a < d.n) (ht : t < 4) : nb d a t < d.n := by
  have := hd.lt (4 * a + t) (by omega)
  unfold nb; omega
theorem nb_comp (hd : Wf d) {a t : Nat} (ha : a < d.n) (ht : t < 4) : Comp d a (nb d a t) := by
  have h1 := (con_comp hd (g := 4 * a + t) (h := d.m (4 * a + t)) (by omega) (hd.lt _ (by omega))).1 (Con.refl.right)
  rwa [show (4 * a + t) / 4 = a by omega] at h1
/-- A set of crossings that holds its neighbours holds its components. -/
theorem comp_closed (hd : Wf d) {P : Nat → Prop} (hP : ∀ a, a < d.n → P a → ∀ t, t < 4 → P (nb d a t)) {a b : Nat} (ha : a < d.n) (h : P a) (e : Comp d a b) : P b := by
  have : ∀ y, Con rot d.m (4 * a) y → y < 4 * d.n ∧ P (y / 4) := by
    intro y e
    induction e with
    | refl => exact ⟨by omega, by rw [show 4 * a / 4 = a by omega]; exact h⟩
    | left _ ih => exact ⟨tn_lt ih.1, by unfold rot; rw [tn_div]; exact ih.2⟩
    | right _ ih =>
      rename_i y _
      refine ⟨hd.lt y ih.1, ?_⟩
      have := hP (y / 4) (by omega) ih.2 (y % 4) (by omega)
      unfold nb at this
      rwa [show 4 * (y / 4) + y % 4 = y by omega] at this
  have := (this _ e).2
  rwa [show 4 * b / 4 = b by omega] at this

/-- Whole components bear the labels below P, each its own. -/
structure LB (d : Dg) (ps : List Int) (P : Nat) : Prop where
  len : ps.length = d.n
  lo : ∀ a, a < d.n → -1 ≤ pv ps a ∧ pv ps a < P
  same : ∀ a b, a < d.n → Comp d a b → 0 ≤ pv ps a → pv ps b = pv ps a
  conn : ∀ a b, a < d.n → b < d.n → 0 ≤ pv ps a → pv ps a = pv ps b → Comp d a b
  all : ∀ p : Nat, p < P → ∃ a, a < d.n ∧ pv ps a = p
theorem LB.le {ps : List Int} {P : Nat} (h : LB d ps P) : P ≤ d.n := by
  have hw : ∀ p : Nat, ∃ a : Nat, p < P → a < d.n ∧ pv ps a = p := fun p => by
    by_cases hp : p < P
    · obtain ⟨a, ha⟩ := h.all p hp; exact ⟨a, fun _ => ha⟩
    · exact ⟨0, fun e => absurd e hp⟩
  refine pigeon P d.n (fun p => Classical.choose (hw p)) (fun p hp => (Classical.choose_spec (hw p) hp).1) (fun p q hp hq e => ?_)
  have e1 := (Classical.choose_spec (hw p) hp).2
  have e2 := (Classical.choose_spec (hw q) hq).2
  have e' : Classical.choose (hw p) = Classical.choose (hw q) := e
  rw [e', e2] at e1
  omega
theorem LB.start (d : Dg) : LB d (List.replicate d.n (-1)) 0 := by
  have e : ∀ a, a < d.n → pv (List.replicate d.n (-1)) a = -1 := fun a ha => by
    unfold pv; rw [List.getD_eq_getElem?_getD, List.getElem?_replicate, if_pos ha]; rfl
  exact ⟨by simp, fun a ha => by rw [e a ha]; omega, fun a b ha _ h => by rw [e a ha] at h; omega, fun a b ha _ h => by rw [e a ha] at h; omega, fun p hp => by omega⟩
/-- No crossing of the component of an unlabelled one is labelled. -/
theorem LB.none (hd : Wf d) {ps : List Int} {P : Nat} (h : LB d ps P) {c b : Nat} (hc : c < d.n) (hn : pv ps c < 0) (e : Comp d c b) : pv ps b < 0 := by
  have hb := comp_mem hd hc e
  by_cases h0 : 0 ≤ pv ps b
  · have := h.same b c hb (comp_symm hd hc e) h0
    omega
  · omega

/-- While the component of c is searched: qs waits, the slots of u below s are done. -/
structure LQ (d : Dg) (c : Nat) (p0 : List Int) (P : Nat) (ps : List Int) (qs : List Nat) (u s : Nat) : Prop where
  base : LB d p0 P
  hc : c < d.n
  new : pv p0 c < 0
  len : ps.length = d.n
  me : pv ps c = P
  mine : ∀ a, a < d.n → pv ps a = P → Comp d c a
  old : ∀ a, a < d.n → pv ps a ≠ P → pv ps a = pv p0 a
  wait : ∀ q, q ∈ qs → q < d.n ∧ pv ps q = P
  brd : ∀ a, a < d.n → pv ps a = P → a ∈ qs ∨ ∀ t, t < 4 → (a = u → t < s) → 0 ≤ pv ps (nb d a t)
theorem LQ.start {c : Nat} {p0 : List Int} {P : Nat} (h : LB d p0 P) (hc : c < d.n) (hn : pv p0 c < 0) : LQ d c p0 P (p0.set c P) [c] d.n 0 := by
  have hl : c < p0.length := by rw [h.len]; exact hc
  refine ⟨h, hc, hn, by rw [List.length_set, h.len], by rw [pv_set hl, if_pos rfl], fun a ha e => ?_, fun a ha e => ?_, fun q hq => ?_, fun a ha e => ?_⟩
  · rw [pv_set hl] at e
    by_cases h1 : a = c
    · subst h1; exact .refl
    · rw [if_neg h1] at e; have := (h.lo a ha).2; omega
  · rw [pv_set hl] at e ⊢
    by_cases h1 : a = c
    · rw [if_pos h1] at e; exact absurd rfl e
    · rw [if_neg h1]
  · rw [List.mem_singleton] at hq; subst hq; exact ⟨hc, by rw [pv_set hl, if_pos rfl]⟩
  · rw [pv_set hl] at e
    by_cases h1 : a = c
    · exact .inl (by rw [h1]; simp)
    · rw [if_neg h1] at e; have := (h.lo a ha).2; omega
theorem LQ.pop {c : Nat} {p0 ps : List Int} {P q s u : Nat} {qs : List Nat} (h : LQ d c p0 P ps (q :: qs) u s) (hu : u = d.n) : LQ d c p0 P ps qs q 0 := by
  refine ⟨h.base, h.hc, h.new, h.len, h.me, h.mine, h.old, fun x hx => h.wait x (by simp [hx]), fun a ha e => ?_⟩
  rcases h.brd a ha e with h1 | h1
  · by_cases h2 : a = q
    · exact .inr fun t _ h3 => absurd (h3 h2) (by omega)
    · exact .inl (by simpa [h2] using h1)
  · exact .inr fun t ht _ => h1 t ht (fun e => absurd e (by omega))
theorem LQ.ge {c : Nat} {p0 ps : List Int} {P s u : Nat} {qs : List Nat} (h : LQ d c p0 P ps qs u s) {a : Nat} (ha : a < d.n) : -1 ≤ pv ps a ∧ pv ps a < (P + 1 : Nat) := by
  by_cases e : pv ps a = P
  · omega
  · rw [h.old a ha e]; have := h.base.lo a ha; omega
/-- The neighbour at the slot s has a label. -/
theorem LQ.skip {c : Nat} {p0 ps : List Int} {P s u : Nat} {qs : List Nat} (h : LQ d c p0 P ps qs u s) (hn : 0 ≤ pv ps (nb d u s)) : LQ d c p0 P ps qs u (s + 1) := by
  refine ⟨h.base, h.hc, h.new, h.len, h.me, h.mine, h.old, h.wait, fun a ha e => ?_⟩
  rcases h.brd a ha e with h1 | h1
  · exact .inl h1
  · refine .inr fun t ht h2 => ?_
    by_cases h3 : a = u ∧ t = s
    · obtain ⟨rfl, rfl⟩ := h3; exact hn
    · exact h1 t ht (fun e => by
        have := h2 e
        have : t ≠ s := fun e2 => h3 ⟨e, e2⟩
        omega)
/-- It has none: it gets one, and waits. -/
theorem LQ.push (hd : Wf d) {c : Nat} {p0 ps : List Int} {P s u : Nat} {qs : List Nat} (h : LQ d c p0 P ps qs u s) (hu : u < d.n) (hup : pv ps u = P) (hs : s < 4) (_ : pv ps (nb d u s) < 0) :
    LQ d c p0 P (ps.set (nb d u s) P) (qs ++ [nb d u s]) u (s + 1) := by
  have hb := nb_lt hd hu hs
  have hl : nb d u s < ps.length := by rw [h.len]; exact hb
  have hcb : Comp d c (nb d u s) := (h.mine u hu hup).trans (nb_comp hd hu hs)
  refine ⟨h.base, h.hc, h.new, by rw [List.length_set, h.len], ?_, fun a ha e => ?_, fun a ha e => ?_, fun q hq => ?_, fun a ha e => ?_⟩
  · rw [pv_set hl]; split
    · rfl
    · exact h.me
  · rw [pv_set hl] at e
    by_cases h1 : a = nb d u s
    · rw [h1]; exact hcb
    · rw [if_neg h1] at e; exact h.mine a ha e
  · rw [pv_set hl] at e ⊢
    by_cases h1 : a = nb d u s
    · rw [if_pos h1] at e; exact absurd rfl e
    · rw [if_neg h1] at e ⊢; exact h.old a ha e
  · rw [List.mem_append, List.mem_singleton] at hq
    rw [pv_set hl]
    rcases hq with hq | hq
    · exact ⟨(h.wait q hq).1, by split; rfl; exact (h.wait q hq).2⟩
    · subst hq; exact ⟨hb, by rw [if_pos rfl]⟩
  · by_cases h1 : a = nb d u s
    · exact .inl (by rw [h1]; simp)
    · rw [pv_set hl, if_neg h1] at e
      rcases h.brd a ha e with h2 | h2
      · exact .inl (by simp [h2])
      · refine .inr fun t ht h3 => ?_
        rw [pv_set hl]
        split
        · omega
        · rename_i h4
          refine h2 t ht (fun e => ?_)
          have := h3 e
          have : t ≠ s := fun e2 => h4 (by rw [e, e2])
          omega
theorem LQ.rest {c : Nat} {p0 ps : List Int} {P u : Nat} {qs : List Nat} (h : LQ d c p0 P ps qs u 4) : LQ d c p0 P ps qs d.n 0 :=
  ⟨h.base, h.hc, h.new, h.len, h.me, h.mine, h.old, h.wait, fun a ha e => (h.brd a ha e).imp id fun h1 t ht _ => h1 t ht (fun _ => ht)⟩
/-- THE QUEUE IS EMPTY: the component is done. -/
theorem LQ.done (hd : Wf d) {c : Nat} {p0 ps : List Int} {P s : Nat} (h : LQ d c p0 P ps [] d.n s) : LB d ps (P + 1) ∧ (∀ a, a < d.n → 0 ≤ pv p0 a → 0 ≤ pv ps a) ∧ 0 ≤ pv ps c := by
  have full : ∀ b, Comp d c b → pv ps b = P := by
    intro b e
    have : b < d.n ∧ pv ps b = P := by
      refine comp_closed hd (P := fun a => a < d.n ∧ pv ps a = P) (fun a ha ⟨_, h2⟩ t ht => ?_) h.hc ⟨h.hc, h.me⟩ e
      refine ⟨nb_lt hd ha ht, ?_⟩
      rcases h.brd a ha h2 with h3 | h3
      · cases h3
      · have h4 := h3 t ht (fun e => absurd e (by omega))
        by_cases h5 : pv ps (nb d a t) = P
        · exact h5
        · have h6 := h.old _ (nb_lt hd ha ht) h5
          have := h.base.none hd h.hc h.new ((h.mine a ha h2).trans (nb_comp hd ha ht))
          omega
    exact this.2
  have cls : ∀ a, a < d.n → (pv ps a = P ↔ Comp d c a) := fun a ha => ⟨h.mine a ha, full a⟩
  refine ⟨⟨h.len, fun a ha => h.ge ha, fun a b ha e h0 => ?_, fun a b ha hb h0 e => ?_, fun p hp => ?_⟩, fun a ha h0 => ?_, by rw [h.me]; omega⟩
  · have hb := comp_mem hd ha e
    by_cases h1 : pv ps a = P
    · rw [h1]; exact full b ((h.mine a ha h1).trans e)
    · have h2 : pv ps b ≠ P := fun h3 => h1 ((cls a ha).2 ((h.mine b hb h3).trans (comp_symm hd ha e)))
      rw [h.old a ha h1, h.old b hb h2]
      rw [h.old a ha h1] at h0
      exact h.base.same a b ha e h0
  · by_cases h1 : pv ps a = P
    · rw [h1] at e
      exact (comp_symm hd h.hc (h.mine a ha h1)).trans (h.mine b hb e.symm)
    · have h2 : pv ps b ≠ P := fun h3 => h1 (by rw [e, h3])
      rw [h.old a ha h1, h.old b hb h2] at e
      rw [h.old a ha h1] at h0
      exact h.base.conn a b ha hb h0 e
  · by_cases h1 : p = P
    · exact ⟨c, h.hc, by rw [h.me, h1]⟩
    · obtain ⟨a, ha, e⟩ := h.base.all p (by omega)
      refine ⟨a, ha, ?_⟩
      by_cases h2 : pv ps a = P
      · have := h.base.none hd h.hc h.new (h.mine a ha h2)
        omega
      · rw [h.old a ha h2, e]
  · by_cases h1 : pv ps a = P
    · rw [h1]; omega
    · rw [h.old a ha h1]; exact h0
end Go.Proofs.Ytobbepmlmbbamaa.Pl
end

section
/-
  Rows of memory that a call makes and writes, each a block known whole. No function of the program is named here.
-/
namespace Go.Proofs.Ytobbepmlmbbamaa
open Go Go.RowKit

/-- Block g is the row vs. -/
def Row (w : World) (g : Nat) (t : TypeId) (vs : List Value) : Prop := w.heap[g]? = some (.cells vs.toArray t (0, 0))
theorem Row.lt {w : World} {g : Nat} {t : TypeId} {vs : List Value} (h : Row w g t vs) : g < w.heap.size := lt_of_heap h
theorem Row.cell {w : World} {g : Nat} {t : TypeId} {vs : List Value} (h : Row w g t vs) {i : Nat} (hi : i < vs.length) : w.cell? ⟨g, i, none⟩ = some (vs[i]'hi) := by
  rw [cell_of_row w g i _ t (0, 0) h]; simp [hi]
theorem Row.free {w : World} {g : Nat} {t : TypeId} {vs : List Value} (h : Row w g t vs) (i : Nat) : w.frozen? ⟨g, i, none⟩ = false := frozen_of_row w g i _ t h
theorem Row.set {w : World} {g : Nat} {t : TypeId} {vs : List Value} (h : Row w g t vs) (i : Nat) (v : Value) : Row (w.setCell ⟨g, i, none⟩ v) g t (vs.set i v) := by
  unfold Row
  rw [Go.heap_setCell_same w g i _ t v h]
  simp
theorem Row.other {w : World} {g : Nat} {t : TypeId} {vs : List Value} (h : Row w g t vs) {a : Addr} (ha : g ≠ a.block) (v : Value) : Row (w.setCell a v) g t vs := (Below.heap_setCell w a v g ha).trans h
theorem Row.alloc {w : World} {g : Nat} {t : TypeId} {vs : List Value} (h : Row w g t vs) (o : Obj) : Row (w.alloc o) g t vs := (Below.heap_alloc w o g h.lt).trans h
theorem Row.drew {w : World} {g : Nat} {t : TypeId} {vs : List Value} (h : Row w g t vs) : Row w.drew g t vs := h
theorem Row.below {w w' : World} {g : Nat} {t : TypeId} {vs : List Value} (h : Row w g t vs) (hb : Below w.heap.size w w') : Row w' g t vs := (hb.block g h.lt).trans h
theorem Row.grown {w w' : World} {g : Nat} {t : TypeId} {vs : List Value} {r : Option Nat} (h : Row w g t vs) (hg : w.grownBy w' r) (hr : some g ≠ r) : Row w' g t vs := (hg.block g h.lt hr).trans h
theorem Row.new (w : World) (t : TypeId) (vs : List Value) : Row (w.alloc (.cells vs.toArray t)) w.heap.size t vs := heap_alloc_new w _

/-- A row of numbers. -/
def IRow (w : World) (g : Nat) (zs : List Int) : Prop := Row w g 3 (zs.map (.int .i64))
theorem IRow.cell {w : World} {g : Nat} {zs : List Int} (h : IRow w g zs) {i : Nat} (hi : i < zs.length) : w.cell? ⟨g, i, none⟩ = some (.int .i64 (Pl.pv zs i)) := by
  refine (Row.cell h (i := i) (by simpa using hi)).trans ?_
  unfold Pl.pv
  rw [List.getElem_map, List.getD_eq_getElem?_getD, List.getElem?_eq_getElem hi]; rfl
theorem IRow.set {w : World} {g : Nat} {zs : List Int} (h : IRow w g zs) (i : Nat) (v : Int) : IRow (w.setCell ⟨g, i, none⟩ (.int .i64 v)) g (zs.set i v) := by
  unfold IRow
  rw [List.map_set]
  exact Row.set h i _
theorem IRow.ints {w : World} {g : Nat} {zs : List Int} (h : IRow w g zs) : IntsAt w (some ⟨g, 0, none⟩) zs.length zs := by
  refine ⟨by simp, fun _ => ⟨g, 0, rfl, fun j u hu => ?_⟩⟩
  rw [Nat.zero_add]
  refine (cell_of_row w g j _ _ (0, 0) h).trans ?_
  simpa using hu
/-- A row of bools. -/
def BRow (w : World) (g : Nat) (bs : List Bool) : Prop := Row w g 4 (bs.map .bool)
theorem BRow.cell {w : World} {g : Nat} {bs : List Bool} (h : BRow w g bs) {i : Nat} (hi : i < bs.length) : w.cell? ⟨g, i, none⟩ = some (.bool (bs.getD i false)) := by
  refine (Row.cell h (i := i) (by simpa using hi)).trans ?_
  rw [List.getElem_map, List.getD_eq_getElem?_getD, List.getElem?_eq_getElem hi]; rfl
theorem BRow.set {w : World} {g : Nat} {bs : List Bool} (h : BRow w g bs) (i : Nat) (v : Bool) : BRow (w.setCell ⟨g, i, none⟩ (.bool v)) g (bs.set i v) := by
  unfold BRow
  rw [List.map_set]
  exact Row.set h i _

theorem made_rep (v : Value) (n : Nat) : madeCells #[v] n = (List.replicate n v).toArray := by
  apply Array.ext'
  simp only [madeCells, Array.toList_map, Array.toList_range]
  refine List.ext_getElem (by simp) (fun i h1 h2 => ?_)
  have : i % 1 = 0 := Nat.mod_one i
  simp [this]
theorem IRow.made (w : World) (n : Nat) : IRow (w.alloc (.cells (Array.replicate n (Value.int .i64 0)) 3)) w.heap.size (List.replicate n 0) := by
  unfold IRow Row
  rw [List.map_replicate]
  exact heap_alloc_new w _
theorem BRow.made (w : World) (n : Nat) : BRow (w.alloc (.cells (Array.replicate n (Value.bool false)) 4)) w.heap.size (List.replicate n false) := by
  unfold BRow Row
  rw [List.map_replicate]
  exact heap_alloc_new w _
theorem intInfo : (Try.prog.info? 3).map (fun i => (i.zero, i.size, i.bytes)) = some (some (.int .i64 0), 1, 8) := by kernel_rfl
theorem boolInfo : (Try.prog.info? 4).map (fun i => (i.zero, i.size, i.bytes)) = some (some (.bool false), 1, 1) := by kernel_rfl
theorem run_ints (n : Nat) (hn : n ≤ 100000) (w : World) : (Instr.makeSlice 22 (.int .i64 (n : Int)) (.int .i64 (n : Int))).run Try.prog w = .ok (.slice (some ⟨w.heap.size, 0, none⟩) n n) (w.alloc (.cells (Array.replicate n (Value.int .i64 0)) 3)) := by
  obtain ⟨i0, hi, hz0, hz1, hz2⟩ := info_parts intInfo
  have := run_make (P := Try.prog) w 22 3 i0 (.int .i64 0) Try.underlying22 hi hz0 .i64 .i64 n n (by omega) (Int.le_refl _) (by rw [hz2]; omega) (by omega)
  rw [hz1, Nat.mul_one, Int.toNat_natCast, show madeCells (Value.cells (.int .i64 0)) n = (List.replicate n (.int .i64 0)).toArray from made_rep _ _] at this
  exact this
theorem run_bools (n : Nat) (hn : n ≤ 100000) (w : World) : (Instr.makeSlice 69 (.int .i64 (n : Int)) (.int .i64 (n : Int))).run Try.prog w = .ok (.slice (some ⟨w.heap.size, 0, none⟩) n n) (w.alloc (.cells (Array.replicate n (Value.bool false)) 4)) := by
  obtain ⟨i0, hi, hz0, hz1, hz2⟩ := info_parts boolInfo
  have := run_make (P := Try.prog) w 69 4 i0 (.bool false) Try.underlying69 hi hz0 .i64 .i64 n n (by omega) (Int.le_refl _) (by rw [hz2]; omega) (by omega)
  rw [hz1, Nat.mul_one, Int.toNat_natCast, show madeCells (Value.cells (.bool false)) n = (List.replicate n (.bool false)).toArray from made_rep _ _] at this
  exact this
end Go.Proofs.Ytobbepmlmbbamaa
end

section
/-
  slices.Grow at nil, slices.Concat of two slices, and append of any slice of numbers to a row of the call's own.
-/
namespace Go.Proofs.Ytobbepmlmbbamaa
open Go Go.RowKit

section
variable {P : Program} (w : World)
theorem run_append_ints (base : Nat) (t ty e : TypeId) (i : TypeInfo) (z : Value) (bytes : Nat) (ht : P.underlying t = some (.slice e)) (hi : P.info? e = some i) (hz : i.zero = some z)
    (hsize : i.size = 1) (hby : i.bytes = bytes) (hzs : z.cells.size = 1)
    (v : Value) (n : Nat) (xs : List Value) (hown : w.ownsRow base e 1 v n xs)
    (A : Option Addr) (m c : Nat) (zs : List Int) (hin : IntsAt w A m zs)
    (h63 : n + m ≤ maxLen) (hbytes : (n + m) * bytes ≤ 140737488355328) (hbase : base ≤ w.heap.size) :
    ∃ v' w', (Builtin.append_ #[t, t] ty #[v, .slice A m c]).run P w = .ok v' w' ∧ w'.ownsRow base e 1 v' (n + m) (xs ++ zs.map (.int .i64)) ∧ w.grownBy w' v.ownBlock := by
  have hl := hin.len
  rcases Nat.eq_zero_or_pos m with h0 | h0
  · subst h0
    obtain rfl : zs = [] := List.eq_nil_of_length_eq_zero hl
    have hr : (Builtin.append_ #[t, t] ty #[v, .slice A 0 c]).run P w = .ok v w := by
      rcases hown.2 with ⟨rfl, rfl⟩ | ⟨g, cap, cur, rfl, _, _, hnc, _⟩
      · cases A <;> simp [Builtin.append_, run_underlying ht, sizeOf, typeInfo, hi, Builtin.lenOf, Builtin.firstCells, loadCells, loadCellsFrom]
      · cases A <;> simp [Builtin.append_, run_underlying ht, sizeOf, typeInfo, hi, Builtin.lenOf, Builtin.firstCells, hnc, storeCells, loadCells, loadCellsFrom]
    refine ⟨v, w, hr, by simpa using hown, ⟨rfl, rfl, rfl, Nat.le_refl _, fun _ _ _ => rfl⟩⟩
  · obtain ⟨b, o, rfl, hc⟩ := hin.2 h0
    obtain ⟨v', w', hr, h2, h3, _⟩ := run_append_own (P := P) w base t ty e i z 1 bytes ht hi hz hsize hby hzs (by omega) v n xs hown ⟨b, o, none⟩ m c (zs.map (.int .i64)) (by rw [List.length_map, hl, Nat.mul_one]) (fun j u hu => by
      have : (⟨b, o, none⟩ : Addr).add j = ⟨b, o + j, none⟩ := by unfold Addr.add; split <;> simp_all
      rw [this]; exact hc j u hu) (fun u hu => by
      obtain ⟨x, _, rfl⟩ := List.mem_map.1 hu; rfl) h63 hbytes hbase
    exact ⟨v', w', hr, h2, h3⟩
theorem wp_append_ints {o : Oper} {a : Act} {K : Act → World → Prop} {Q : Exit → Act → World → Prop} (s x : Operand) (t : TypeId)
    (ho : o.op = .call { callee := .builtin .append, args := #[s, x], argTypes := #[t, t] })
    (base : Nat) (e : TypeId) (i : TypeInfo) (z : Value) (bytes : Nat) (ht : P.underlying t = some (.slice e)) (hi : P.info? e = some i) (hz : i.zero = some z)
    (hsize : i.size = 1) (hby : i.bytes = bytes) (hzs : z.cells.size = 1)
    (v : Value) (n : Nat) (xs : List Value) (hs : a.eval s = v) (hown : w.ownsRow base e 1 v n xs)
    (A : Option Addr) (m c : Nat) (zs : List Int) (hx : a.eval x = .slice A m c) (hin : IntsAt w A m zs)
    (h63 : n + m ≤ maxLen) (hbytes : (n + m) * bytes ≤ 140737488355328) (hbase : base ≤ w.heap.size)
    (h : ∀ v' w', w'.ownsRow base e 1 v' (n + m) (xs ++ zs.map (.int .i64)) → w.grownBy w' v.ownBlock → K (a.put o.dst v') w') : o.wp P a w K Q := by
  obtain ⟨v', w', hr, h2, h3⟩ := run_append_ints (P := P) w base t o.type e i z bytes ht hi hz hsize hby hzs v n xs hown A m c zs hin h63 hbytes hbase
  unfold Oper.wp execOp
  simp only [ho, resolve, invoke, builtin, Sem.run_bind, Sem.run_pure, Result.andThen_ok, List.map_toArray, List.map_cons, List.map_nil, hs, hx, hr]
  exact h v' w' h2 h3
theorem wpList_append_ints {ops : Array Oper} {rest : List Oper} {o : Oper} {a : Act} {Q : Exit → Act → World → Prop} (hgd : o.guard = none) (s x : Operand) (t : TypeId)
    (ho : o.op = .call { callee := .builtin .append, args := #[s, x], argTypes := #[t, t] })
    (base : Nat) (e : TypeId) (i : TypeInfo) (z : Value) (bytes : Nat) (ht : P.underlying t = some (.slice e)) (hi : P.info? e = some i) (hz : i.zero = some z)
    (hsize : i.size = 1) (hby : i.bytes = bytes) (hzs : z.cells.size = 1)
    (v : Value) (n : Nat) (xs : List Value) (hs : a.eval s = v) (hown : w.ownsRow base e 1 v n xs)
    (A : Option Addr) (m c : Nat) (zs : List Int) (hx : a.eval x = .slice A m c) (hin : IntsAt w A m zs)
    (h63 : n + m ≤ maxLen) (hbytes : (n + m) * bytes ≤ 140737488355328) (hbase : base ≤ w.heap.size)
    (h : ∀ v' w', w'.ownsRow base e 1 v' (n + m) (xs ++ zs.map (.int .i64)) → w.grownBy w' v.ownBlock → wpList P ops Q rest (a.put o.dst v') w') : wpList P ops Q (o :: rest) a w :=
  wpList_plain hgd fun _ hK => wp_append_ints w s x t ho base e i z bytes ht hi hz hsize hby hzs v n xs hs hown A m c zs hx hin h63 hbytes hbase fun v' w' h2 h3 => hK _ _ (h v' w' h2 h3)
end

def growRen : Go.Shelf.Ren := ⟨fun | 4 => 131 | n => n, fun | 22 => 22 | 25 => 3 | 3 => 3 | 4 => 4 | 9 => 9 | 20 => 20 | 0 => 0 | n => n, fun | n => n⟩
theorem growLays : Go.Proofs.Lays8.n4 Try.prog growRen := {
  mixed := by kernel_rfl
  f4 := ⟨Try.f131.name, by decide, Try.func131.trans (congrArg some (by kernel_rfl))⟩
  t0 := Try.underlying0
  a0 := Try.isAgg0
  z0 := Try.sizeOf0
  v0 := Try.zeroValue0
  t3 := Try.underlying3
  a3 := Try.isAgg3
  z3 := Try.sizeOf3
  v3 := Try.zeroValue3
  t4 := Try.underlying4
  a4 := Try.isAgg4
  z4 := Try.sizeOf4
  v4 := Try.zeroValue4
  t9 := Try.underlying9
  a9 := Try.isAgg9
  z9 := Try.sizeOf9
  v9 := Try.zeroValue9
  t20 := Try.underlying20
  a20 := Try.isAgg20
  z20 := Try.sizeOf20
  v20 := Try.zeroValue20
  t22 := Try.underlying22
  a22 := Try.isAgg22
  z22 := Try.sizeOf22
  v22 := Try.zeroValue22 }
/-- slices.Grow(nil, n). -/
theorem grow_nil (n : Nat) (w : World) (hn : n ≤ 100000) :
    Calls Try.prog 131 #[.slice none 0 0, .int .i64 (n : Int)] w fun e w' => ∃ v, e = .returned v ∧ w'.ownsRow w.heap.size 3 1 v 0 [] ∧ Below w.heap.size w w' := by
  rcases Nat.eq_zero_or_pos n with h0 | h0
  · subst h0
    refine (Any8.slices_Grow_room growLays none 0 0 0 w (by omega) (by omega) (by omega) (by omega)).mono ?_
    rintro e w' ⟨rfl, rfl⟩
    exact ⟨_, rfl, World.ownsRow_nil _ _ _ _, Below.refl _ _⟩
  · obtain ⟨i0, hi0, hz0, hz1, hz2⟩ := info_parts intInfo
    refine (Any8.slices_Grow_grow growLays i0 (.int .i64 0) hi0 hz0 (by omega) none 0 0 n [] w (by omega) (by omega) (by rw [hz2]; omega) (by omega) (by simp) (fun _ => rfl) (fun a h => by cases h)).mono ?_
    rintro e w' ⟨rfl, rfl⟩
    have hge := grownCap_ge w (0 + n) 0 3
    have hle := grownCap_le_maxLen w (0 + n) 0 3 (by unfold maxLen; omega)
    refine ⟨_, rfl, ?_, ((Below.refl _ _).drew).alloc (by simp) _⟩
    refine ⟨rfl, .inr ⟨w.heap.size, _, _, rfl, Nat.le_refl _, heap_alloc_new w.drew _, Nat.zero_le _, hle, ?_, by simp⟩⟩
    show _ = grownCap w (0 + n) 0 3 * 1
    simp only [Array.size_append, List.size_toArray, size_zeroCells, List.length_nil]
    show 0 + (0 + n - 0) * 1 + (grownCap w (0 + n) 0 3 - (0 + n)) * 1 = _
    omega
end Go.Proofs.Ytobbepmlmbbamaa
end

section
/-
  Walks: slices.Concat of two slices; join, shifted, place.
-/
namespace Go.Proofs.Ytobbepmlmbbamaa
open Go.RowKit

def pre (xs ys : List Int) (k : Nat) : List Int := if k = 0 then [] else if k = 1 then xs else xs ++ ys
set_option maxRecDepth 100000 in
set_option maxHeartbeats 2000000 in
/-- Two slices, one after the other, in memory of the call's own. -/
theorem concat_two (A B : Option Addr) (n m c d h : Nat) (xs ys : List Int) (w : World) (hx : IntsAt w A n xs) (hy : IntsAt w B m ys) (hn : n + m ≤ 100000)
    (c0 : w.cell? ⟨h, 0, none⟩ = some (.slice A n c)) (c1 : w.cell? ⟨h, 1, none⟩ = some (.slice B m d)) :
    Calls Try.prog 120 #[.slice (some ⟨h, 0, none⟩) 2 2] w fun e w' => ∃ v, e = .returned v ∧ w'.ownsRow w.heap.size 3 1 v (n + m) ((xs ++ ys).map (.int .i64)) ∧ Below w.heap.size w w' := by
  have HX := hide hx
  have HY := hide hy
  clear hx hy
  go_enter Try.func120, Try.ntmps120
  go_wp2
  go_loop [3, 11] (fun s i => ∃ k : Nat, k ≤ 2 ∧ i = .int .i64 k ∧ s = .int .i64 ((if k = 0 then 0 else if k = 1 then n else n + m : Nat) : Int)) (fun _ i => 2 - (intOf i).toNat)
  case atStart => exact ⟨0, by omega, rfl, rfl⟩
  case round =>
    obtain ⟨k, hk, rfl, rfl⟩ := hrel
    have h3 : k = 0 ∨ k = 1 ∨ k = 2 := by omega
    rcases h3 with rfl | rfl | rfl
    · simp only [if_true]
      go_wp2
      go_round
      case rel => exact ⟨1, by omega, by go_num, by simp⟩
      case measure => simp [intOf]
    · simp only [Nat.one_ne_zero, if_true, if_false]
      go_wp2
      go_round
      case rel => exact ⟨2, by omega, by go_num, by simp⟩
      case measure => simp [intOf]
    · simp only [show (2 : Nat) ≠ 0 by omega, show (2 : Nat) ≠ 1 by omega, if_false]
      obtain ⟨s, hs⟩ : ∃ s, s = n + m := ⟨_, rfl⟩
      rw [← hs]
      have HS := hide hs
      have hs2 : s ≤ 100000 := by omega
      clear hs
      go_wp2_with fail
      refine (grow_nil s _ hs2).mono ?_
      rintro e w1 ⟨v0, rfl, hown, hb1⟩
      have HO := hide hown
      have HB1 := hide hb1
      clear hown hb1
      go_wp2
      have hxl := HX.out.len
      have hyl := HY.out.len
      go_loopg [6, 27] 2 (fun g v i wx => ∃ k : Nat, k + g = 2 ∧ i = .int .i64 k ∧ wx.ownsRow w.heap.size 3 1 v (pre xs ys k).length ((pre xs ys k).map (.int .i64)) ∧ Below w.heap.size w wx)
      case atStart => exact ⟨0, rfl, rfl, HO.out, HB1.out⟩
      case round =>
        obtain ⟨k, hkg, rfl, hown, hb⟩ := hrel
        have hcell := hide hb
        have d0' := cell_below c0 hb
        have d1' := cell_below c1 hb
        have HX' := hide (HX.out.keep hb)
        have HY' := hide (HY.out.keep hb)
        obtain ⟨i0, hi0, hz0, hz1, hz2⟩ := info_parts intInfo
        have hwz := hb.size
        obtain ⟨g1, rfl⟩ : ∃ g1, g1 = gk := ⟨_, rfl⟩
        have HK := hide hkg
        have HO' := hide hown
        clear hb hown
        have h3 : k = 0 ∨ k = 1 ∨ k = 2 := by omega
        clear hkg
        rcases h3 with rfl | rfl | rfl
        · go_wp2_with (at_builtin; refine wpList_append_ints _ rfl _ _ 22 rfl w.heap.size 3 i0 (.int .i64 0) 8 Try.underlying22 hi0 hz0 hz1 hz2 rfl _ 0 [] (by rfl) HO'.out A n c xs (by rfl) HX'.out (by unfold maxLen; omega) (by omega) hwz ?_; intro v2 w2 own2 grow2)
          go_roundg 1
          case measure => have := HK.out; omega
          case rel =>
            refine ⟨1, rfl, rfl, ?_, hcell.out.grown grow2 hwz (fun k hk => (HO'.out.lt k hk).1)⟩
            have e : pre xs ys 1 = xs := rfl
            rw [e, hxl]
            simpa using own2
        · have e1 : (pre xs ys 1).length = n := hxl
          have HO2 := hide (show wr.ownsRow w.heap.size 3 1 u6 n (xs.map (.int .i64)) by have := HO'.out; rw [e1] at this; exact this)
          go_wp2_with (at_builtin; refine wpList_append_ints _ rfl _ _ 22 rfl w.heap.size 3 i0 (.int .i64 0) 8 Try.underlying22 hi0 hz0 hz1 hz2 rfl _ n (xs.map (.int .i64)) (by rfl) HO2.out B m d ys (by rfl) HY'.out (by unfold maxLen; omega) (by omega) hwz ?_; intro v2 w2 own2 grow2)
          go_roundg 0
          case measure => have := HK.out; omega
          case rel =>
            refine ⟨2, rfl, rfl, ?_, hcell.out.grown grow2 hwz (fun k hk => (HO'.out.lt k hk).1)⟩
            have e : pre xs ys 2 = xs ++ ys := rfl
            rw [e, List.length_append, hxl, hyl, List.map_append]
            exact own2
        · go_wp2
          go_ret
          refine ⟨_, rfl, ?_, hcell.out⟩
          have h7 := HO'.out
          have e : pre xs ys 2 = xs ++ ys := rfl
          rw [e, List.length_append, hxl, hyl] at h7
          exact h7

theorem owns_slice {w : World} {base : Nat} {e : TypeId} {size : Nat} {v : Value} {n : Nat} {xs : List Value} (h : w.ownsRow base e size v n xs) : ∃ A c, v = .slice A n c := by
  rcases h.2 with ⟨rfl, rfl⟩ | ⟨g, cap, cur, rfl, _⟩
  · exact ⟨_, _, rfl⟩
  · exact ⟨_, _, rfl⟩
theorem concat_ex (n m h : Nat) (xs ys : List Int) (w : World) (hn : n + m ≤ 100000) (h0 : ∃ A c, w.cell? ⟨h, 0, none⟩ = some (.slice A n c) ∧ IntsAt w A n xs) (h1 : ∃ B d, w.cell? ⟨h, 1, none⟩ = some (.slice B m d) ∧ IntsAt w B m ys) :
    Calls Try.prog 120 #[.slice (some ⟨h, 0, none⟩) 2 2] w fun e w' => ∃ (A : Option Addr) (c : Nat), e = .returned (.slice A (n + m) c) ∧ w'.ownsRow w.heap.size 3 1 (.slice A (n + m) c) (n + m) ((xs ++ ys).map (.int .i64)) ∧ Below w.heap.size w w' := by
  obtain ⟨A, c, c0, hx⟩ := h0
  obtain ⟨B, d, c1, hy⟩ := h1
  refine (concat_two A B n m c d h xs ys w hx hy hn c0 c1).mono ?_
  rintro e w' ⟨v, rfl, hown, hb⟩
  obtain ⟨A', c', rfl⟩ := owns_slice hown
  exact ⟨A', c', rfl, hown, hb⟩

/-- A row of the call's own that holds numbers, reached by a slice value. -/
def OwnN (w : World) (base g n cap : Nat) (l : List Nat) : Prop := w.ownsRow base 3 1 (.slice (some ⟨g, 0, none⟩) n cap) n (l.map (fun k : Nat => Value.int .i64 k))
theorem OwnN.len {w : World} {base g n cap : Nat} {l : List Nat} (h : OwnN w base g n cap l) : l.length = n := by have := h.1; simpa using this
theorem OwnN.cell {w : World} {base g n cap : Nat} {l : List Nat} (h : OwnN w base g n cap l) {k : Nat} (hk : k < n) : w.cell? ⟨g, k, none⟩ = some (.int .i64 (l.getD k 0 : Nat)) := by
  have hl := h.len
  rw [World.ownsRow.cellAt h k (by omega), List.getElem?_map, List.getElem?_eq_getElem (by omega), List.getD_eq_getElem?_getD, List.getElem?_eq_getElem (by omega)]; rfl
theorem OwnN.free {w : World} {base g n cap : Nat} {l : List Nat} (h : OwnN w base g n cap l) (k : Nat) : w.frozen? ⟨g, k, none⟩ = false := World.ownsRow.frozenAt h k
theorem OwnN.set {w : World} {base g n cap : Nat} {l : List Nat} (h : OwnN w base g n cap l) (k v : Nat) : OwnN (w.setCell ⟨g, k, none⟩ (.int .i64 (v : Nat))) base g n cap (l.set k v) ∧ w.grownBy (w.setCell ⟨g, k, none⟩ (.int .i64 (v : Nat))) (some g) := by
  have := World.ownsRow.stored h k (.int .i64 (v : Nat))
  refine ⟨?_, this.2⟩
  unfold OwnN
  rw [List.map_set]
  exact this.1
theorem grownBy_trans {w w1 w2 : World} {r : Option Nat} (h : w.grownBy w1 r) (h2 : w1.grownBy w2 r) : w.grownBy w2 r :=
  ⟨h2.os.trans h.os, h2.tape.trans h.tape, h2.output.trans h.output, Nat.le_trans h.size h2.size, fun k hk hr => (h2.block k (Nat.lt_of_lt_of_le hk h.size) hr).trans (h.block k hk hr)⟩
/-- Two half-edges made mates. -/
def jn (l : List Nat) (a b : Nat) : List Nat := (l.set a b).set b a
theorem join_any (base g n cap a b : Nat) (l : List Nat) (w : World) (h : OwnN w base g n cap l) (ha : a < n) (hb : b < n) (hn : n ≤ 100000) :
    Calls Try.prog 79 #[.slice (some ⟨g, 0, none⟩) n cap, .int .i64 (a : Int), .int .i64 (b : Int)] w fun e w' => e = .returned (.tuple #[]) ∧ OwnN w' base g n cap (jn l a b) ∧ w.grownBy w' (some g) := by
  have c1 := h.cell ha
  have f1 := h.free a
  obtain ⟨h2, g2⟩ := h.set a b
  have c2 := h2.cell hb
  have f2 := h2.free b
  obtain ⟨h3, g3⟩ := h2.set b a
  have H3 := hide h3
  have G3 := hide (grownBy_trans g2 g3)
  clear h h2 h3 g2 g3
  go_enter Try.func79, Try.ntmps79
  go_wp2
  go_end0
  exact ⟨rfl, H3.out, G3.out⟩
theorem join_int (base g n cap : Nat) (a b : Int) (l : List Nat) (w : World) (h : OwnN w base g n cap l) (ha : 0 ≤ a ∧ a < n) (hb : 0 ≤ b ∧ b < n) (hn : n ≤ 100000) :
    Calls Try.prog 79 #[.slice (some ⟨g, 0, none⟩) n cap, .int .i64 a, .int .i64 b] w fun e w' => e = .returned (.tuple #[]) ∧ OwnN w' base g n cap (jn l a.toNat b.toNat) ∧ w.grownBy w' (some g) := by
  obtain ⟨x, rfl⟩ := Int.eq_ofNat_of_zero_le ha.1
  obtain ⟨y, rfl⟩ := Int.eq_ofNat_of_zero_le hb.1
  rw [Int.toNat_natCast, Int.toNat_natCast]
  exact join_any base g n cap x y l w h (by omega) (by omega) hn
end Go.Proofs.Ytobbepmlmbbamaa
end
