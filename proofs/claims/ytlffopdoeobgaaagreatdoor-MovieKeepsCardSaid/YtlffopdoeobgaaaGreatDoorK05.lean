/-
 The texts Wm, Cyc, Wr, Prt, Xa in one.
-/
import Derived.Test.YtlffopdoeobgaaaGreatDoorK04
import Derived.Deep.RegionHeld3
import Derived.Deep.DrawnRows
import Derived.Test.YtlffopdoeobgaaaGreatDoorK03
import Derived.Outline
import Derived.Deep.DeepCutAuto
set_option linter.unusedVariables false
set_option linter.unusedSimpArgs false
section
namespace Go.Proofs.YtlffopdoeobgaaaGreatDoor
open Go Go.RowKit
structure UC (w : World) (gi : Nat) (x0 x1 x2 y0 y1 y2 y3 y4 : Value) (W : World) : Prop where
 d : Row W w.heap.size 24 [x0, x1, x2]
 i : Row W gi 36 [y0, y1, y2, y3, y4]
 rd : ∃ vs, Row W (w.heap.size + 1 + 1) 24 vs ∧ vs.length = 3
 rm : ∃ us, Row W (w.heap.size + 1 + 1 + 1) 36 us ∧ us.length = 5
 bel : Below w.heap.size w W
 lo : w.heap.size + 1 + 1 + 1 < gi
section
variable {w : World} {gi : Nat} {x0 x1 x2 y0 y1 y2 y3 y4 : Value} {W W' : World}
theorem UC.drew (h : UC w gi x0 x1 x2 y0 y1 y2 y3 y4 W) : UC w gi x0 x1 x2 y0 y1 y2 y3 y4 W.drew := ⟨h.d, h.i, h.rd, h.rm, h.bel.drew, h.lo⟩
theorem UC.below (h : UC w gi x0 x1 x2 y0 y1 y2 y3 y4 W) (hb : Below W.heap.size W W') : UC w gi x0 x1 x2 y0 y1 y2 y3 y4 W' :=
 let ⟨vs, r1, l1⟩ := h.rd
 let ⟨us, r2, l2⟩ := h.rm
 ⟨h.d.below hb, h.i.below hb, ⟨vs, r1.below hb, l1⟩, ⟨us, r2.below hb, l2⟩, h.bel.trans (hb.mono h.bel.size), h.lo⟩
theorem UC.alloc (h : UC w gi x0 x1 x2 y0 y1 y2 y3 y4 W) (o : Obj) : UC w gi x0 x1 x2 y0 y1 y2 y3 y4 (W.alloc o) := h.below ((Below.refl _ _).alloc (Nat.le_refl _) o)
theorem UC.setD (h : UC w gi x0 x1 x2 y0 y1 y2 y3 y4 W) (o : Nat) (v : Value) : UC w gi x0 x1 x2 y0 y1 y2 y3 y4 (W.setCell ⟨w.heap.size + 1 + 1, o, none⟩ v) :=
 let ⟨vs, r1, l1⟩ := h.rd
 let ⟨us, r2, l2⟩ := h.rm
 have hl := h.lo
 ⟨h.d.other (by show _ ≠ w.heap.size + 1 + 1; omega) v, h.i.other (by show _ ≠ w.heap.size + 1 + 1; omega) v, ⟨vs.set o v, r1.set o v, by rw [List.length_set, l1]⟩, ⟨us, r2.other (by show _ ≠ w.heap.size + 1 + 1; omega) v, l2⟩, h.bel.setCell (by show _ ≤ w.heap.size + 1 + 1; omega) v, h.lo⟩
theorem UC.setM (h : UC w gi x0 x1 x2 y0 y1 y2 y3 y4 W) (o : Nat) (v : Value) : UC w gi x0 x1 x2 y0 y1 y2 y3 y4 (W.setCell ⟨w.heap.size + 1 + 1 + 1, o, none⟩ v) :=
 let ⟨vs, r1, l1⟩ := h.rd
 let ⟨us, r2, l2⟩ := h.rm
 have hl := h.lo
 ⟨h.d.other (by show _ ≠ w.heap.size + 1 + 1 + 1; omega) v, h.i.other (by show _ ≠ w.heap.size + 1 + 1 + 1; omega) v, ⟨vs, r1.other (by show _ ≠ w.heap.size + 1 + 1 + 1; omega) v, l1⟩, ⟨us.set o v, r2.set o v, by rw [List.length_set, l2]⟩, h.bel.setCell (by show _ ≤ w.heap.size + 1 + 1 + 1; omega) v, h.lo⟩
theorem UC.all (h : UC w gi x0 x1 x2 y0 y1 y2 y3 y4 W) : W.cell? ⟨w.heap.size, 0, none⟩ = some x0 ∧ W.cell? ⟨gi, 0, none⟩ = some y0 ∧ W.cell? ⟨gi, 1, none⟩ = some y1 ∧ W.cell? ⟨gi, 2, none⟩ = some y2 ∧ W.cell? ⟨gi, 3, none⟩ = some y3 ∧ W.cell? ⟨gi, 4, none⟩ = some y4 ∧
 W.cell? ⟨w.heap.size + 1 + 1, 0, none⟩ = some (cv W ⟨w.heap.size + 1 + 1, 0, none⟩) ∧ W.cell? ⟨w.heap.size + 1 + 1, 1, none⟩ = some (cv W ⟨w.heap.size + 1 + 1, 1, none⟩) ∧ W.cell? ⟨w.heap.size + 1 + 1, 2, none⟩ = some (cv W ⟨w.heap.size + 1 + 1, 2, none⟩) ∧
 W.cell? ⟨w.heap.size + 1 + 1 + 1, 0, none⟩ = some (cv W ⟨w.heap.size + 1 + 1 + 1, 0, none⟩) ∧ W.cell? ⟨w.heap.size + 1 + 1 + 1, 1, none⟩ = some (cv W ⟨w.heap.size + 1 + 1 + 1, 1, none⟩) ∧ W.cell? ⟨w.heap.size + 1 + 1 + 1, 2, none⟩ = some (cv W ⟨w.heap.size + 1 + 1 + 1, 2, none⟩) ∧ W.cell? ⟨w.heap.size + 1 + 1 + 1, 3, none⟩ = some (cv W ⟨w.heap.size + 1 + 1 + 1, 3, none⟩) ∧ W.cell? ⟨w.heap.size + 1 + 1 + 1, 4, none⟩ = some (cv W ⟨w.heap.size + 1 + 1 + 1, 4, none⟩) ∧
 (∀ o, W.frozen? ⟨w.heap.size + 1 + 1, o, none⟩ = false) ∧ (∀ o, W.frozen? ⟨w.heap.size + 1 + 1 + 1, o, none⟩ = false) ∧ UC w gi x0 x1 x2 y0 y1 y2 y3 y4 W := by
 obtain ⟨vs, r1, l1⟩ := h.rd
 obtain ⟨us, r2, l2⟩ := h.rm
 obtain ⟨d0, _, _, _⟩ := box3 h.d
 obtain ⟨i0, i1, i2, i3, i4, _⟩ := box5 h.i
 exact ⟨d0, i0, i1, i2, i3, i4, cv_some (r1.cell (i := 0) (by omega)), cv_some (r1.cell (i := 1) (by omega)), cv_some (r1.cell (i := 2) (by omega)), cv_some (r2.cell (i := 0) (by omega)), cv_some (r2.cell (i := 1) (by omega)), cv_some (r2.cell (i := 2) (by omega)), cv_some (r2.cell (i := 3) (by omega)), cv_some (r2.cell (i := 4) (by omega)), r1.free, r2.free, h⟩
end
theorem own_ints' {w : World} {base : Nat} {e : TypeId} {A : Option Addr} {n c : Nat} {zs : List Int} (h : w.ownsRow base e 1 (.slice A n c) n (zs.map (.int .i64))) : IntsAt w A n zs := by
 have hl := h.1
 rcases h.2 with ⟨h1, h2⟩ | ⟨g, cap, cur, h1, _⟩
 ·subst h2
  exact ⟨by simpa using hl, fun h => absurd h (by omega)⟩
 ·injection h1 with h1 _ h3
  subst h1
  exact own_ints h
theorem map_nats (l : List Nat) : (nats l).map (Value.int .i64) = l.map (fun k : Nat => Value.int .i64 k) := by unfold nats; rw [List.map_map]; rfl
theorem getD_m {d : Pl.Dg} {k : Nat} (hk : k < d.mt.length) : d.mt.getD k 0 = d.m k := by
 unfold Pl.Dg.m
 rw [List.getD_eq_getElem?_getD, List.getD_eq_getElem?_getD, List.getElem?_eq_getElem hk]; rfl
theorem getD_le {d : Pl.Dg} (hd : Pl.Wf d) (h : Nat) : d.mt.getD h 0 ≤ 256 := by
 have hn := hd.few
 have hl := hd.len
 by_cases hh : h < d.mt.length
 ·rw [getD_m hh]
  have := hd.lt h (by omega)
  omega
 ·rw [List.getD_eq_getElem?_getD, List.getElem?_eq_none (by omega)]
  exact Nat.zero_le _
theorem set_le {l : List Nat} {N a b : Nat} (h : ∀ k, l.getD k 0 ≤ N) (hb : b ≤ N) : ∀ k, (l.set a b).getD k 0 ≤ N := by
 intro k
 have hk := h k
 rw [List.getD_eq_getElem?_getD] at hk ⊢
 rw [List.getElem?_set]
 split
 ·split
  ·simpa using hb
  ·simp
 ·exact hk
theorem jn_le {l : List Nat} {N a b : Nat} (h : ∀ k, l.getD k 0 ≤ N) (ha : a ≤ N) (hb : b ≤ N) : ∀ k, (jn l a b).getD k 0 ≤ N := set_le (set_le h hb) ha
def kA (d : Pl.Dg) (c : Nat) : Nat := Pl.tn (kk d c) 2
def kB (d : Pl.Dg) (c : Nat) : Nat := Pl.tn (d.m (kk d c)) 2
def uncC (d : Pl.Dg) (c : Nat) : Int := if d.m (kk d c) / 4 = c then (if d.m (kA d c) = kB d c then (if 64 < d.lp + 1 then 5 else 0) else 0) else 6
def unM (d : Pl.Dg) (c : Nat) : List Nat := if d.m (kA d c) = kB d c then d.mt else jn d.mt (d.m (kA d c)) (d.m (kB d c))
def unD (d : Pl.Dg) (c : Nat) : Pl.Dg := ⟨Pl.shrS [c] d.sg, Pl.shrM [c] d.n (unM d c), if d.m (kA d c) = kB d c then d.lp + 1 else d.lp⟩
def unI (d : Pl.Dg) (c : Nat) : Mv := ⟨1, if d.m (kA d c) = kB d c then -1 else (Pl.shf [c] (d.m (kA d c)) : Nat), 0, d.s c, decide (kA d c % 2 = 1)⟩
def UncPost (d : Pl.Dg) (c : Nat) (w : World) (e : Ending) (w' : World) : Prop := (uncC d c ≠ 0 → ResErr (uncC d c) e) ∧ (uncC d c = 0 → ResOk (unD d c) (unI d c) e w') ∧ Below w.heap.size w w'
theorem kk_lt {d : Pl.Dg} {c : Nat} (hc : c < d.n) : kk d c < 4 * d.n := by unfold kk; split <;> (try split) <;> omega
theorem kA_lt {d : Pl.Dg} {c : Nat} (hc : c < d.n) : kA d c < 4 * d.n := Pl.tn_lt (kk_lt hc)
theorem kB_lt {d : Pl.Dg} (hd : Pl.Wf d) {c : Nat} (hc : c < d.n) : kB d c < 4 * d.n := Pl.tn_lt (hd.lt _ (kk_lt hc))
theorem shrunk_sl (gs : List Nat) (sg : List Int) (mt : List Nat) (lp : Int) (A B C : Option Addr) (n q r cp cq cr : Nat) (w : World) (hs : IntsAt w A n sg) (hm : IntsAt w B q (nats mt)) (hg : IntsAt w C r (nats gs)) (hf : Pl.Few gs)
 (hq : q = 4 * n) (hcq : q ≤ cq) (hcq2 : cq ≤ maxLen) (hn : n ≤ 100) (hr : 1 ≤ r ∧ r ≤ 100) (hmt : ∀ h, mt.getD h 0 ≤ 1000) :
 Calls Tryz.prog 87 #[.slice A n cp, .slice B q cq, .int .i64 lp, .slice C r cr] w fun e w' => ∃ (A7 A8 : Option Addr) (c7 c8 : Nat), e = .returned (.agg #[.slice A7 (Pl.left sg.length gs).length c7, .slice A8 (4 * (Pl.left sg.length gs).length) c8, .int .i64 lp]) ∧
  w'.ownsRow (w.heap.size + 2) 3 1 (.slice A7 (Pl.left sg.length gs).length c7) (Pl.left sg.length gs).length ((Pl.shrS gs sg).map (.int .i64)) ∧ w'.ownsRow (w.heap.size + 2) 3 1 (.slice A8 (4 * (Pl.left sg.length gs).length) c8) (4 * (Pl.left sg.length gs).length) ((Pl.shrM gs sg.length mt).map (fun k : Nat => Value.int .i64 k)) ∧ Below w.heap.size w w' := by
 refine (shrunk_any gs sg mt lp A B C n q r cp cq cr w hs hm hg hf hq hcq hcq2 hn hr hmt).mono ?_
 rintro e w' ⟨vS, vM, rfl, o1, o2, hb⟩
 obtain ⟨A7, c7, rfl⟩ := owns_slice o1
 obtain ⟨A8, c8, rfl⟩ := owns_slice o2
 exact ⟨A7, A8, c7, c8, rfl, o1, o2, hb⟩
def W4 (w : World) (x0 x1 x2 y0 y1 y2 y3 y4 : Value) : World := ((((w.alloc (.cells #[x0, x1, x2] 24)).alloc (.cells #[y0, y1, y2, y3, y4] 36)).alloc (.cells #[.slice none 0 0, .slice none 0 0, .int .i64 0] 24)).alloc (.cells #[.int .i64 0, .int .i64 0, .int .i64 0, .int .i64 0, .bool false] 36))
theorem row_at {W : World} {t : TypeId} {vs : List Value} {g : Nat} (h : g = W.heap.size) : Row (W.alloc (.cells vs.toArray t)) g t vs := by subst h; exact Row.new W t vs
theorem boxes4 (w : World) (x0 x1 x2 y0 y1 y2 y3 y4 : Value) :
 Row (W4 w x0 x1 x2 y0 y1 y2 y3 y4) w.heap.size 24 [x0, x1, x2] ∧ Row (W4 w x0 x1 x2 y0 y1 y2 y3 y4) (w.heap.size + 1) 36 [y0, y1, y2, y3, y4] ∧ Row (W4 w x0 x1 x2 y0 y1 y2 y3 y4) (w.heap.size + 1 + 1) 24 [.slice none 0 0, .slice none 0 0, .int .i64 0] ∧
 Row (W4 w x0 x1 x2 y0 y1 y2 y3 y4) (w.heap.size + 1 + 1 + 1) 36 [.int .i64 0, .int .i64 0, .int .i64 0, .int .i64 0, .bool false] ∧ Below w.heap.size w (W4 w x0 x1 x2 y0 y1 y2 y3 y4) ∧ (W4 w x0 x1 x2 y0 y1 y2 y3 y4).heap.size = w.heap.size + 4 := by
 unfold W4
 refine ⟨(((row_at (vs := [x0, x1, x2]) rfl).alloc _).alloc _).alloc _, ((row_at (vs := [y0, y1, y2, y3, y4]) (by simp)).alloc _).alloc _, (row_at (vs := [.slice none 0 0, .slice none 0 0, .int .i64 0]) (by simp)).alloc _, row_at (vs := [.int .i64 0, .int .i64 0, .int .i64 0, .int .i64 0, .bool false]) (by simp), ?_, by simp⟩
 exact ((((Below.refl _ _).alloc (Nat.le_refl _) _).alloc (by simp) _).alloc (by simp; omega) _).alloc (by simp; omega) _
end Go.Proofs.YtlffopdoeobgaaaGreatDoor
end
section
namespace Go.Proofs.YtlffopdoeobgaaaGreatDoor.Pl
variable {N : Nat} {S : Nat → Prop} {f : Nat → Nat}
def Per (f : Nat → Nat) (x p : Nat) : Prop := 0 < p ∧ it f p x = x ∧ ∀ i, 0 < i → i < p → it f i x ≠ x
theorem least_nat {P : Nat → Prop} : ∀ (n : Nat), P n → ∃ m, m ≤ n ∧ P m ∧ ∀ k, k < m → ¬ P k
 | 0, h => ⟨0, Nat.le_refl _, h, fun k hk => absurd hk (by omega)⟩
 | n + 1, h => by
   by_cases e : ∃ k, k < n + 1 ∧ P k
   ·obtain ⟨k, hk, hp⟩ := e
    obtain ⟨m, h1, h2, h3⟩ := least_nat k hp
    exact ⟨m, by omega, h2, h3⟩
   ·exact ⟨n + 1, Nat.le_refl _, h, fun k hk hp => e ⟨k, hk, hp⟩⟩
termination_by n => n
theorem Bij.per (h : Bij N S f) {x : Nat} (hx : S x) : ∃ p, p ≤ N ∧ Per f x p := by
 obtain ⟨q, h1, h2, h3⟩ := h.back hx
 obtain ⟨m, g1, ⟨g2, g3⟩, g4⟩ := least_nat (P := fun p => 0 < p ∧ Pl.it f p x = x) q ⟨h1, h3⟩
 exact ⟨m, by omega, g2, g3, fun i hi hm e => g4 i hm ⟨hi, e⟩⟩
def cyc (f : Nat → Nat) (x p : Nat) : List Nat := (List.range p).map (fun i => it f i x)
theorem cyc_len (f : Nat → Nat) (x p : Nat) : (cyc f x p).length = p := by unfold cyc; simp
theorem cyc_succ (f : Nat → Nat) (x p : Nat) : cyc f x (p + 1) = cyc f x p ++ [it f p x] := by unfold cyc; rw [List.range_succ, List.map_append]; rfl
theorem cyc_get {f : Nat → Nat} {x p i : Nat} (hi : i < p) : (cyc f x p).getD i 0 = it f i x := by
 unfold cyc
 rw [List.getD_eq_getElem?_getD, List.getElem?_map, List.getElem?_range hi]; rfl
theorem mem_cyc {x p : Nat} (hp : Per f x p) {y : Nat} : y ∈ cyc f x p ↔ Orb f x y := by
 unfold cyc
 rw [List.mem_map]
 constructor
 ·rintro ⟨i, _, e⟩; exact ⟨i, e⟩
 ·rintro ⟨k, e⟩
  refine ⟨k % p, List.mem_range.2 (Nat.mod_lt _ hp.1), ?_⟩
  have h1 : k = k % p + k / p * p := by rw [Nat.mul_comm]; exact (Nat.mod_add_div k p).symm
  rw [h1, it_add, it_mul f p x hp.2.1] at e
  exact e
structure Fcs (f : Nat → Nat) (W : Nat → Prop) (N k : Nat) (fs : List (List Nat)) (bs : List Bool) : Prop where
 len : bs.length = N
 is : ∀ l, l ∈ fs → ∃ h p, h < N ∧ W h ∧ Per f h p ∧ l = cyc f h p
 seen : ∀ h, h < N → (gb bs h = true ↔ ∃ l, l ∈ fs ∧ h ∈ l)
 all : ∀ h, h < k → W h → gb bs h = true
 one : ∀ (i j : Nat) (l m : List Nat) (h : Nat), fs[i]? = some l → fs[j]? = some m → h ∈ l → h ∈ m → i = j
theorem Fcs.start (f : Nat → Nat) (W : Nat → Prop) (N : Nat) : Fcs f W N 0 [] (List.replicate N false) := by
 refine ⟨by simp, fun l h => by simp at h, fun h hh => ?_, fun h hh => absurd hh (by omega), fun i j l m h e => by simp at e⟩
 constructor
 ·intro e; unfold gb at e; rw [List.getD_eq_getElem?_getD, List.getElem?_replicate, if_pos hh] at e; exact absurd e (by decide)
 ·rintro ⟨l, h, _⟩; simp at h
theorem Fcs.skip {W : Nat → Prop} {k : Nat} {fs : List (List Nat)} {bs : List Bool} (h : Fcs f W N k fs bs) (hs : gb bs k = true ∨ ¬ W k) : Fcs f W N (k + 1) fs bs :=
 ⟨h.len, h.is, h.seen, fun x hx hw => by
   by_cases e : x = k
   ·subst e
    rcases hs with hs | hs
    ·exact hs
    ·exact absurd hw hs
   ·exact h.all x (by omega) hw, h.one⟩
def mark (bs : List Bool) : List Nat → List Bool
 | [] => bs
 | x :: l => mark (bs.set x true) l
theorem mark_append (bs : List Bool) : ∀ (l m : List Nat), mark bs (l ++ m) = mark (mark bs l) m := by
 intro l
 induction l generalizing bs with
 | nil => intro m; rfl
 | cons x l ih => intro m; exact ih (bs.set x true) m
theorem mark_len (bs : List Bool) (l : List Nat) : (mark bs l).length = bs.length := by
 induction l generalizing bs with
 | nil => rfl
 | cons x l ih => show (mark (bs.set x true) l).length = _; rw [ih, List.length_set]
theorem gb_mark {bs : List Bool} {l : List Nat} (hl : ∀ x, x ∈ l → x < bs.length) (h : Nat) : gb (mark bs l) h = true ↔ gb bs h = true ∨ h ∈ l := by
 induction l generalizing bs with
 | nil => simp [mark]
 | cons x l ih =>
   show gb (mark (bs.set x true) l) h = true ↔ _
   rw [ih (fun y hy => by rw [List.length_set]; exact hl y (List.mem_cons_of_mem _ hy)), gb_set (hl x List.mem_cons_self) true h, List.mem_cons]
   by_cases e : h = x
   ·simp [e]
   ·simp [e]
theorem Fcs.add {W : Nat → Prop} (hb : Bij N S f) (hS : ∀ x, x < N → S x) (hN : ∀ x, S x → x < N) {k p : Nat} {fs : List (List Nat)} {bs : List Bool} (h : Fcs f W N k fs bs) (hk : k < N) (hw : W k) (hn : gb bs k = false) (hp : Per f k p) :
 Fcs f W N (k + 1) (fs ++ [cyc f k p]) (mark bs (cyc f k p)) := by
 have hin : ∀ x, x ∈ cyc f k p → x < bs.length := fun x hx => by
  rw [h.len]; exact hN x (hb.orb_mem (hS k hk) ((mem_cyc hp).1 hx))
 have apart : ∀ l x, l ∈ fs → x ∈ l → ¬ x ∈ cyc f k p := fun l x hl hx hc => by
  obtain ⟨g, q, h1, h2, h3, rfl⟩ := h.is l hl
  have e1 := (mem_cyc h3).1 hx
  have e2 := (mem_cyc hp).1 hc
  have e3 : Orb f g k := e1.trans (hb.symm (hS k hk) e2)
  have := (h.seen k hk).2 ⟨_, hl, (mem_cyc h3).2 e3⟩
  rw [hn] at this
  exact absurd this (by decide)
 refine ⟨by rw [mark_len, h.len], fun l hl => ?_, fun x hx => ?_, fun x hx hwx => ?_, fun i j l m x e1 e2 h1 h2 => ?_⟩
 ·rcases List.mem_append.1 hl with hl | hl
  ·exact h.is l hl
  ·rw [List.mem_singleton] at hl
   exact ⟨k, p, hk, hw, hp, hl⟩
 ·rw [gb_mark hin, h.seen x hx]
  constructor
  ·rintro (⟨l, h1, h2⟩ | h2)
   ·exact ⟨l, List.mem_append_left _ h1, h2⟩
   ·exact ⟨_, List.mem_append_right _ (List.mem_singleton.2 rfl), h2⟩
  ·rintro ⟨l, h1, h2⟩
   rcases List.mem_append.1 h1 with h1 | h1
   ·exact .inl ⟨l, h1, h2⟩
   ·rw [List.mem_singleton] at h1; subst h1; exact .inr h2
 ·rw [gb_mark hin]
  by_cases e : x = k
  ·subst e; exact .inr ((mem_cyc hp).2 (Orb.refl f x))
  ·exact .inl (h.all x (by omega) hwx)
 ·rw [List.getElem?_append] at e1 e2
  by_cases c1 : i < fs.length
  ·rw [if_pos c1] at e1
   by_cases c2 : j < fs.length
   ·rw [if_pos c2] at e2
    exact h.one i j l m x e1 e2 h1 h2
   ·rw [if_neg c2] at e2
    have := List.mem_of_getElem? e2
    rw [List.mem_singleton] at this
    subst this
    exact absurd h2 (apart l x (List.mem_of_getElem? e1) h1)
  ·rw [if_neg c1] at e1
   have t1 := List.mem_of_getElem? e1
   rw [List.mem_singleton] at t1
   by_cases c2 : j < fs.length
   ·rw [if_pos c2] at e2
    subst t1
    exact absurd h1 (apart m x (List.mem_of_getElem? e2) h2)
   ·rw [if_neg c2] at e2
    have a1 := (List.getElem?_eq_some_iff.1 e1).1
    have a2 := (List.getElem?_eq_some_iff.1 e2).1
    simp only [List.length_singleton] at a1 a2
    omega
theorem Fcs.label {W : Nat → Prop} (hb : Bij N S f) (hS : ∀ x, x < N → S x) {fs : List (List Nat)} {bs : List Bool} (h : Fcs f W N N fs bs) (hW : ∀ x, x < N → W x) {F : Nat → Nat} (hF : ∀ (i : Nat) (l : List Nat) (x : Nat), fs[i]? = some l → x ∈ l → F x = i) {x y : Nat} (hx : x < N) (hy : y < N) : F x = F y ↔ Orb f x y := by
 obtain ⟨l, h1, h2⟩ := (h.seen x hx).1 (h.all x hx (hW x hx))
 obtain ⟨m, g1, g2⟩ := (h.seen y hy).1 (h.all y hy (hW y hy))
 obtain ⟨i, hi⟩ := List.getElem?_of_mem h1
 obtain ⟨j, hj⟩ := List.getElem?_of_mem g1
 rw [hF i l x hi h2, hF j m y hj g2]
 obtain ⟨a, p, a1, a2, a3, rfl⟩ := h.is l h1
 have ox := (mem_cyc a3).1 h2
 constructor
 ·intro e
  subst e
  rw [hi] at hj
  injection hj with hj
  subst hj
  have oy := (mem_cyc a3).1 g2
  exact (hb.symm (hS a a1) ox).trans oy
 ·intro e
  exact h.one i j _ m y hi hj ((mem_cyc a3).2 (ox.trans e)) g2
end Go.Proofs.YtlffopdoeobgaaaGreatDoor.Pl
end
section
namespace Go.Proofs.YtlffopdoeobgaaaGreatDoor
open Go Go.RowKit
def fv1 (k : Nat) (c : Value) : Value := .func (.func k) #[] #[c]
def Steps (k : Nat) (c : Value) (N : Nat) (f : Nat → Nat) (w : World) : Prop := ∀ w' h, Below w.heap.size w w' → h < N → Calls Tryz.prog k #[.int .i64 (h : Int), c] w' fun e w'' => e = .returned (.int .i64 (f h : Nat)) ∧ Below w'.heap.size w' w''
theorem Steps.keep {k : Nat} {c : Value} {N : Nat} {f : Nat → Nat} {w W : World} (h : Steps k c N f w) (hb : Below w.heap.size w W) : Steps k c N f W :=
 fun w' x hb' hx => h w' x (hb.trans (hb'.mono hb.size)) hx
theorem nextF_any (d : Pl.Dg) (B : Option Addr) (cq m g h : Nat) (x0 x2 : Value) (w : World) (hm : m = 4 * d.n) (hd : Pl.Wf d) (hr : Row w g 24 [x0, .slice B m cq, x2]) (hb : IntsAt w B m (nats d.mt)) (hh : h < 4 * d.n) :
 Calls Tryz.prog 137 #[.int .i64 (h : Int), .pointer (some ⟨g, 0, none⟩)] w fun e w' => e = .returned (.int .i64 (Pl.nx d h : Nat)) ∧ w' = w := by
 have hn := hd.few
 have lt := hd.lt h hh
 obtain ⟨b, o, rfl, hc⟩ := mate_at (by rw [← hm]; exact hb) hh
 obtain ⟨f0, f1, f2, f3⟩ := box3 hr
 have hhm : h < m := by omega
 have HM := hide hm
 clear hm
 obtain ⟨u, hu⟩ : ∃ u, u = d.m h := ⟨_, rfl⟩
 have HU := hide (show Pl.nx d h = Pl.tn u 3 by rw [hu]; rfl)
 rw [← hu] at hc lt
 clear hu
 go_enter Tryz.func137, Tryz.ntmps137
 go_wp2_with fail
 refine (turn_back u _ (by omega)).mono ?_
 rintro e w1 ⟨rfl, rfl⟩
 go_wp2
 go_ret
 exact ⟨by rw [HU.out]; rfl, rfl⟩
theorem nextF_steps (d : Pl.Dg) (B : Option Addr) (cq m g : Nat) (x0 x2 : Value) (w : World) (hm : m = 4 * d.n) (hd : Pl.Wf d) (hr : Row w g 24 [x0, .slice B m cq, x2]) (hb : IntsAt w B m (nats d.mt)) :
 Steps 137 (.pointer (some ⟨g, 0, none⟩)) (4 * d.n) (Pl.nx d) w := fun w' h hbl hh =>
 (nextF_any d B cq m g h x0 x2 w' hm hd (hr.below hbl) (hb.keep hbl) hh).mono fun _ _ ⟨he, hw⟩ => ⟨he, by rw [hw]; exact Below.refl _ _⟩
theorem own_one (W : World) (x : Value) : (W.alloc (.cells #[x] 3)).ownsRow W.heap.size 3 1 (.slice (some ⟨W.heap.size, 0, none⟩) 1 1) 1 [x] :=
 ⟨rfl, .inr ⟨W.heap.size, 1, #[x], rfl, Nat.le_refl _, heap_alloc_new W _, Nat.le_refl _, by unfold maxLen; omega, rfl, rfl⟩⟩
theorem it_lt {f : Nat → Nat} {N : Nat} (hf : ∀ x, x < N → f x < N) {h : Nat} (hh : h < N) : ∀ k, Pl.it f k h < N
 | 0 => hh
 | k + 1 => hf _ (it_lt hf hh k)
def CycPost (f : Nat → Nat) (h p : Nat) (w : World) (e : Ending) (w' : World) : Prop :=
 ∃ (A : Option Addr) (c : Nat), e = .returned (.slice A p c) ∧ w'.ownsRow w.heap.size 3 1 (.slice A p c) p ((Pl.cyc f h p).map (fun k : Nat => Value.int .i64 k)) ∧ Below w.heap.size w w'
set_option maxRecDepth 100000 in
set_option maxHeartbeats 2000000 in
theorem cycle_any (c : Value) (N : Nat) (f : Nat → Nat) (h p : Nat) (w : World) (hst : Steps 137 c N f w) (hf : ∀ x, x < N → f x < N) (hh : h < N) (hp : Pl.Per f h p) (hpN : p ≤ N) (hN : N ≤ 1000) :
 Calls Tryz.prog 140 #[.int .i64 (h : Int), fv1 137 c] w (CycPost f h p w) := by
 unfold fv1
 have HST := hide hst
 have HF := hide hf
 have HP := hide hp
 have hp0 := hp.1
 clear hst hf hp
 have B1 := hide (show Below w.heap.size w (w.alloc (.cells #[.int .i64 (h : Int)] 3)) from (Below.refl _ _).alloc (Nat.le_refl _) _)
 go_enter Tryz.func140, Tryz.ntmps140
 go_wp2_with fail
 refine (HST.out _ h B1.out hh).mono ?_
 rintro e w2 ⟨rfl, hb2⟩
 have B2 := hide (B1.out.trans (hb2.mono B1.out.size))
 have O2 := hide (own_keep (own_one w (.int .i64 (h : Int))) hb2 (Nat.le_refl _))
 clear hb2
 go_wp2_with fail
 go_loopg [5, 6] (p - 1) (fun g v i wx => ∃ j : Nat, j + 1 + g = p ∧ i = .int .i64 (Pl.it f (j + 1) h : Nat) ∧ wx.ownsRow w.heap.size 3 1 v (j + 1) ((Pl.cyc f h (j + 1)).map (fun k : Nat => Value.int .i64 k)) ∧ Below w.heap.size w wx)
 case atStart => exact ⟨0, by omega, rfl, O2.out, B2.out⟩
 case round =>
  clear O2 B2 B1
  obtain ⟨j, hjg, rfl, own, hb⟩ := hrel
  have HJ := hide hjg
  have hjp : j + 1 ≤ p := by omega
  have OWN := hide own
  have HB := hide hb
  have hbs := hb.size
  obtain ⟨x, hx⟩ : ∃ x, x = Pl.it f (j + 1) h := ⟨_, rfl⟩
  rw [← hx]
  have HX := hide hx
  have hxN : x < N := by rw [hx]; exact it_lt HF.out hh (j + 1)
  clear hjg own hb hx
  by_cases he : x = h
  ·have hjj : ¬ j + 1 < p := fun hlt => HP.out.2.2 (j + 1) (by omega) hlt (by rw [← HX.out, he])
   have t1 : ((x : Int) != (h : Int)) = false := by rw [bne_eq_false_iff_eq]; omega
   have HE := hide he
   obtain rfl : j + 1 = p := by omega
   obtain ⟨A5, c5, rfl⟩ := owns_slice OWN.out
   clear he hjj
   go_wp2
   go_ret
   exact ⟨A5, c5, rfl, OWN.out, HB.out⟩
  ·have t1 : ((x : Int) != (h : Int)) = true := by rw [bne_iff_ne]; omega
   have hjj : j + 1 < p := by
    rcases Nat.lt_or_ge (j + 1) p with h1 | h1
    ·exact h1
    ·have : j + 1 = p := by omega
     exact absurd (by rw [HX.out, this]; exact HP.out.2.1) he
   clear he
   obtain ⟨i0, hi0, hz0, hz1, hz2⟩ := info_parts intInfo
   go_wp2_with (at_builtin; refine wpList_append_lies _ (by rfl) _ _ 22 (by rfl) w.heap.size 3 i0 (.int .i64 0) 1 8 Tryz.underlying22 hi0 hz0 hz1 hz2 rfl (by omega) _ (j + 1) _ (by rfl) (OWN.out.alloc _) ⟨wr.heap.size, 0, none⟩ 1 1 [.int .i64 (x : Int)] (by rfl) (by rfl) (one_news wr (.int .i64 (x : Int))) (by simp [Value.oneCell']) (by omega) (by unfold maxLen; omega) (by omega) (by simp; omega) (wr.heap.size + 1) (by simp) ?_; intro g3 c3 w3 own3 grow3 at3 lt3; have OWN3 := hide own3; have GR3 := hide grow3; clear own3 grow3 at3)
   have B3 := hide ((HB.out.alloc hbs (.cells #[.int .i64 (x : Int)] 3)).grown GR3.out (by simp; omega) (fun k hk => (OWN.out.lt k hk).1))
   refine (HST.out _ x B3.out hxN).mono ?_
   rintro e w4 ⟨rfl, hb4⟩
   go_wp2_with fail
   go_roundg (gk - 1)
   case measure => have := HJ.out; omega
   case rel =>
    refine ⟨j + 1, by have := HJ.out; omega, ?_, ?_, B3.out.trans (hb4.mono B3.out.size)⟩
    ·rw [HX.out]; rfl
    ·have := own_keep OWN3.out hb4 (Nat.le_refl _)
     rw [Pl.cyc_succ, List.map_append, ← HX.out]
     exact this
end Go.Proofs.YtlffopdoeobgaaaGreatDoor
end
section
namespace Go.Proofs.YtlffopdoeobgaaaGreatDoor.Pl
variable {d : Dg}
structure PB (d : Dg) (ps : List Int) : Prop where
 len : ps.length = d.n
 is : ∀ c, c < d.n → ∃ b : Nat, pv ps c = b ∧ b ≤ c ∧ Comp d c b
 same : ∀ a b, a < d.n → Comp d a b → pv ps a = pv ps b
end Go.Proofs.YtlffopdoeobgaaaGreatDoor.Pl
end
section
namespace Go.Proofs.YtlffopdoeobgaaaGreatDoor
open Go Go.RowKit
theorem next_i (d : Pl.Dg) (hd : Pl.Wf d) (B : Option Addr) (cq m : Nat) (h : Int) (w : World) (e : m = 4 * d.n) (hh : 0 ≤ h ∧ h < (m : Int)) (hm : IntsAt w B m (nats d.mt)) :
 Calls Tryz.prog 99 #[.slice B m cq, .int .i64 h] w fun e w' => e = .returned (.int .i64 (Pl.nx d h.toNat : Nat)) ∧ w' = w := by
 subst e
 obtain ⟨k, rfl⟩ := Int.eq_ofNat_of_zero_le hh.1
 have hk : k < 4 * d.n := by omega
 refine (next_any d B cq k w hk (by have := hd.few; omega) hm (hd.lt k hk)).mono ?_
 rintro e w' ⟨rfl, rfl⟩
 exact ⟨rfl, rfl⟩
def lnH (x y i : Nat) : Nat := if i < 4 then 4 * x + i else 4 * y + i - 4
def lnO (x y i : Nat) : Nat := if i < 4 then y else x
def isL (d : Pl.Dg) (x y i : Nat) : Prop := Pl.nx d (lnH x y i) / 4 = lnO x y i ∧ Pl.nx d (Pl.nx d (lnH x y i)) = lnH x y i ∧ lnH x y i % 2 = d.m (lnH x y i) % 2
instance (d : Pl.Dg) (x y i : Nat) : Decidable (isL d x y i) := by unfold isL; infer_instance
def lensI (d : Pl.Dg) (x y : Nat) : Option Nat := (List.range 8).find? (fun i => decide (isL d x y i))
def lensV (d : Pl.Dg) (h : Nat) : Value :=
 .agg #[.int .i64 (h : Int), .int .i64 (d.m (Pl.nx d h) : Int), .int .i64 (Pl.tn h 2 : Int), .int .i64 (Pl.tn (d.m (Pl.nx d h)) 2 : Int), .int .i64 (Pl.tn (d.m h) 2 : Int), .int .i64 (Pl.nx d h : Int), .int .i64 (d.m h : Int), .int .i64 (Pl.tn (Pl.nx d h) 2 : Int)]
def noLens : Value := .agg #[.int .i64 0, .int .i64 0, .int .i64 0, .int .i64 0, .int .i64 0, .int .i64 0, .int .i64 0, .int .i64 0]
def findE (d : Pl.Dg) (x y : Nat) : Option Nat → Ending
 | some i => .returned (.tuple #[lensV d (lnH x y i), .bool true])
 | none => .returned (.tuple #[noLens, .bool false])
def FindPost (d : Pl.Dg) (x y : Nat) (w : World) (e : Ending) (w' : World) : Prop := e = findE d x y (lensI d x y) ∧ Below w.heap.size w w'
theorem find_some {p : Nat → Bool} {k : Nat} : ∀ n, k < n → p k = true → (∀ j, j < k → p j = false) → (List.range n).find? p = some k := by
 intro n
 induction n with
 | zero => intro h; omega
 | succ n ih =>
   intro hk hp hn
   rw [List.range_succ, List.find?_append]
   rcases Nat.lt_or_ge k n with h | h
   ·rw [ih h hp hn]; rfl
   ·have : k = n := by omega
    subst this
    have h0 : (List.range k).find? p = none := by
     rw [List.find?_eq_none]
     intro x hx
     rw [hn x (List.mem_range.1 hx)]; decide
    rw [h0]
    simp [hp]
theorem find_none {p : Nat → Bool} {n : Nat} (hn : ∀ j, j < n → p j = false) : (List.range n).find? p = none := by
 rw [List.find?_eq_none]
 intro x hx
 rw [hn x (List.mem_range.1 hx)]; decide
theorem lens_at {d : Pl.Dg} {x y k : Nat} (hk : k < 8) (hp : isL d x y k) (hn : ∀ j, j < k → ¬ isL d x y j) : lensI d x y = some k :=
 find_some 8 hk (by simpa using hp) (fun j hj => by simpa using hn j hj)
theorem lens_no {d : Pl.Dg} {x y : Nat} (hn : ∀ j, j < 8 → ¬ isL d x y j) : lensI d x y = none := find_none (fun j hj => by simpa using hn j hj)
theorem find_more {p : Nat → Prop} {k : Nat} (h : ∀ j, j < k → ¬ p j) (hk : ¬ p k) : ∀ j, j < k + 1 → ¬ p j := fun j hj => by
 rcases Nat.lt_or_ge j k with h1 | h1
 ·exact h j h1
 ·have : j = k := by omega
  subst this; exact hk
theorem row8 {W : World} {g : Nat} {t : TypeId} {vs : List Value} (h : Row W g t vs) (l : vs.length = 8) (y0 y1 y2 y3 y4 y5 y6 y7 : Value) :
 Row ((((((((W.setCell ⟨g, 0, none⟩ y0).setCell ⟨g, 1, none⟩ y1).setCell ⟨g, 2, none⟩ y2).setCell ⟨g, 3, none⟩ y3).setCell ⟨g, 4, none⟩ y4).setCell ⟨g, 5, none⟩ y5).setCell ⟨g, 6, none⟩ y6).setCell ⟨g, 7, none⟩ y7) g t [y0, y1, y2, y3, y4, y5, y6, y7] := by
 obtain ⟨a, b, c, d, e, f, g', h', rfl⟩ : ∃ a b c d e f g h, vs = [a, b, c, d, e, f, g, h] := by
  match vs, l with
  | [a, b, c, d, e, f, g, h], _ => exact ⟨a, b, c, d, e, f, g, h, rfl⟩
 exact (((((((h.set 0 y0).set 1 y1).set 2 y2).set 3 y3).set 4 y4).set 5 y5).set 6 y6).set 7 y7
theorem box8 {W : World} {g : Nat} {t : TypeId} {a b c d e f p q : Value} (h : Row W g t [a, b, c, d, e, f, p, q]) : W.cell? ⟨g, 0, none⟩ = some a ∧ W.cell? ⟨g, 1, none⟩ = some b ∧ W.cell? ⟨g, 2, none⟩ = some c ∧ W.cell? ⟨g, 3, none⟩ = some d ∧ W.cell? ⟨g, 4, none⟩ = some e ∧ W.cell? ⟨g, 5, none⟩ = some f ∧ W.cell? ⟨g, 6, none⟩ = some p ∧ W.cell? ⟨g, 7, none⟩ = some q ∧ ∀ o, W.frozen? ⟨g, o, none⟩ = false :=
 ⟨h.cell (i := 0) (by simp), h.cell (i := 1) (by simp), h.cell (i := 2) (by simp), h.cell (i := 3) (by simp), h.cell (i := 4) (by simp), h.cell (i := 5) (by simp), h.cell (i := 6) (by simp), h.cell (i := 7) (by simp), h.free⟩
theorem below_set8 {w W : World} {g : Nat} (h : Below w.heap.size w W) (hg : w.heap.size ≤ g) (y0 y1 y2 y3 y4 y5 y6 y7 : Value) :
 Below w.heap.size w ((((((((W.setCell ⟨g, 0, none⟩ y0).setCell ⟨g, 1, none⟩ y1).setCell ⟨g, 2, none⟩ y2).setCell ⟨g, 3, none⟩ y3).setCell ⟨g, 4, none⟩ y4).setCell ⟨g, 5, none⟩ y5).setCell ⟨g, 6, none⟩ y6).setCell ⟨g, 7, none⟩ y7) :=
 (((((((h.setCell hg _).setCell hg _).setCell hg _).setCell hg _).setCell hg _).setCell hg _).setCell hg _).setCell hg _
set_option maxRecDepth 100000 in
set_option maxHeartbeats 4000000 in
theorem find_any (d : Pl.Dg) (hd : Pl.Wf d) (A B : Option Addr) (cp cq m x y : Nat) (w : World) (hm : m = 4 * d.n) (hg : DgAt w A B d) (hx : x < d.n) (hy : y < d.n) :
 Calls Tryz.prog 96 #[.agg #[.slice A d.n cp, .slice B m cq, .int .i64 d.lp], .int .i64 (x : Int), .int .i64 (y : Int)] w (FindPost d x y w) := by
 have hn := hd.few
 have HM := hide hm
 have HG := hide hg
 have hm2 : m ≤ 256 := by omega
 clear hm hg
 have X0 := hide (show Row ((w.alloc (.cells #[.slice A d.n cp, .slice B m cq, .int .i64 d.lp] 24)).alloc (.cells #[.int .i64 0, .int .i64 0, .int .i64 0, .int .i64 0, .int .i64 0, .int .i64 0, .int .i64 0, .int .i64 0] 121)) w.heap.size 24 [.slice A d.n cp, .slice B m cq, .int .i64 d.lp] from Row.alloc (Row.new w _ [_, _, _]) _)
 have R0 := hide (show Row ((w.alloc (.cells #[.slice A d.n cp, .slice B m cq, .int .i64 d.lp] 24)).alloc (.cells #[.int .i64 0, .int .i64 0, .int .i64 0, .int .i64 0, .int .i64 0, .int .i64 0, .int .i64 0, .int .i64 0] 121)) (w.heap.size + 1) 121 [.int .i64 0, .int .i64 0, .int .i64 0, .int .i64 0, .int .i64 0, .int .i64 0, .int .i64 0, .int .i64 0] from row_at (vs := [_, _, _, _, _, _, _, _]) (by simp))
 have B0 := hide (show Below w.heap.size w ((w.alloc (.cells #[.slice A d.n cp, .slice B m cq, .int .i64 d.lp] 24)).alloc (.cells #[.int .i64 0, .int .i64 0, .int .i64 0, .int .i64 0, .int .i64 0, .int .i64 0, .int .i64 0, .int .i64 0] 121)) from ((Below.refl _ _).alloc (Nat.le_refl _) _).alloc (by simp) _)
 go_enter Tryz.func96, Tryz.ntmps96
 go_wp2
 go_loopg [15] 8 (fun g i wx => ∃ k : Nat, k + g = 8 ∧ i = .int .i64 k ∧ (∀ j, j < k → ¬ isL d x y j) ∧ Below w.heap.size w wx ∧ Row wx w.heap.size 24 [.slice A d.n cp, .slice B m cq, .int .i64 d.lp] ∧ Row wx (w.heap.size + 1) 121 [.int .i64 0, .int .i64 0, .int .i64 0, .int .i64 0, .int .i64 0, .int .i64 0, .int .i64 0, .int .i64 0])
 case atStart => exact ⟨0, rfl, rfl, fun j h => absurd h (by omega), B0.out, X0.out, R0.out⟩
 case round =>
  clear B0 X0 R0
  obtain ⟨k, hkg, rfl, hno, b1, x1, r1⟩ := hrel
  have HKG := hide hkg
  have HNO := hide hno
  have B1 := hide b1
  have X1 := hide x1
  have R1 := hide r1
  clear hno b1 x1 r1
  by_cases hk : k = 8
  ·subst hk
   clear hkg
   obtain ⟨p0, p1, p2, p3, p4, p5, p6, p7, p8⟩ := box8 R1.out
   go_wp2
   refine bodyPost_ret (v := .tuple #[noLens, .bool false]) ?_ rfl ?_
   ·obtain ⟨e0, e1, e2, e3, e4, e5, e6, e7, _⟩ := box8 (row8 R1.out rfl (.int .i64 0) (.int .i64 0) (.int .i64 0) (.int .i64 0) (.int .i64 0) (.int .i64 0) (.int .i64 0) (.int .i64 0))
    unfold noLens
    simp [results, Tryz.results96, go_sem, e0, e1, e2, e3, e4, e5, e6, e7]
   ·refine ⟨?_, below_set8 B1.out (by omega) _ _ _ _ _ _ _ _⟩
    rw [lens_no HNO.out]
    rfl
  ·have hk8 : k < 8 := by omega
   have HK8 := hide hk8
   clear hkg hk
   obtain ⟨f0, f1, f2, f3⟩ := box3 X1.out
   go_upto_if 24 with fail
   go_cut [9, 10] (fun s9 s10 wx => s9 = .int .i64 (lnH x y k : Nat) ∧ s10 = .int .i64 (lnO x y k : Nat) ∧ wx = wr)
   case first =>
    by_cases h4 : k < 4
    ·have e1 : ((lnH x y k : Nat) : Int) = 4 * (x : Int) + (k : Int) := by unfold lnH; rw [if_pos h4]; omega
     have e2 : lnO x y k = y := by unfold lnO; rw [if_pos h4]
     have E1 := hide e1
     have E2 := hide e2
     clear e1 e2
     go_wp2_with fail
     go_meet
     exact ⟨by rw [E1.out], by rw [E2.out], rfl⟩
    ·have e1 : ((lnH x y k : Nat) : Int) = 4 * (y : Int) + (k : Int) - 4 := by unfold lnH; rw [if_neg h4]; omega
     have e2 : lnO x y k = x := by unfold lnO; rw [if_neg h4]
     have E1 := hide e1
     have E2 := hide e2
     clear e1 e2
     go_wp2_with fail
     go_meet
     exact ⟨by rw [E1.out], by rw [E2.out], rfl⟩
   case rest =>
    obtain ⟨rfl, rfl, rfl⟩ := hcut
    have hh : lnH x y k < 4 * d.n := by unfold lnH; split <;> omega
    have ho : lnO x y k < d.n := by unfold lnO; split <;> omega
    obtain ⟨h, hH⟩ : ∃ h, h = lnH x y k := ⟨_, rfl⟩
    obtain ⟨o, hO⟩ : ∃ o, o = lnO x y k := ⟨_, rfl⟩
    rw [← hH] at hh ⊢
    rw [← hO] at ho ⊢
    have HH := hide hH
    have HO := hide hO
    clear hH hO
    have hmh : h < m := by have := HM.out; omega
    have ih0 : (0 : Int) ≤ (h : Int) := by omega
    have ih1 : (h : Int) < (m : Int) := by omega
    have HGc := hide (HG.out.keep B1.out)
    have HGM := hide (show IntsAt wc B m (nats d.mt) by rw [HM.out]; exact HGc.out.m)
    obtain ⟨mb, mo, rfl, cm⟩ := mate_at HGc.out.m hh
    have hmm := hd.lt h hh
    have hgg : Pl.nx d h < 4 * d.n := Pl.tn_lt (hd.lt h hh)
    obtain ⟨u, hu⟩ : ∃ u, u = d.m h := ⟨_, rfl⟩
    rw [← hu] at cm hmm
    obtain ⟨g, hgx⟩ : ∃ g, g = Pl.nx d h := ⟨_, rfl⟩
    rw [← hgx] at hgg
    have HU := hide hu
    have HGX := hide hgx
    clear hu hgx
    have hg2 : Pl.nx d g < 4 * d.n := Pl.tn_lt (hd.lt g hgg)
    have hgm : g < m := by have := HM.out; omega
    have ig0 : (0 : Int) ≤ (g : Int) := by omega
    have ig1 : (g : Int) < (m : Int) := by omega
    go_wp2_with fail
    refine (next_i d hd (some ⟨mb, mo, none⟩) cq m (h : Int) _ HM.out (by omega) HGM.out).mono ?_
    rintro e w2 ⟨rfl, rfl⟩
    rw [Int.toNat_natCast, ← HGX.out]
    have HL := hide (show isL d x y k ↔ (g / 4 = o ∧ Pl.nx d g = h ∧ h % 2 = u % 2) by unfold isL; rw [← HH.out, ← HO.out, ← HGX.out, ← HU.out])
    obtain ⟨v, hv⟩ : ∃ v, v = Pl.nx d g := ⟨_, rfl⟩
    have HV := hide hv
    clear hv cm
    by_cases c1 : g / 4 = o
    ·have t1 : ((g : Int) / 4 != (o : Int)) = false := by rw [bne_eq_false_iff_eq]; omega
     have C1 := hide c1
     clear c1
     go_wp2_with fail
     refine (next_i d hd (some ⟨mb, mo, none⟩) cq m (g : Int) _ HM.out (by omega) HGM.out).mono ?_
     rintro e w3 ⟨rfl, rfl⟩
     rw [Int.toNat_natCast, ← HV.out]
     by_cases c2 : v = h
     ·have t2 : ((v : Int) != (h : Int)) = false := by rw [bne_eq_false_iff_eq]; omega
      by_cases c3 : h % 2 = u % 2
      ·have t3 : ((h : Int) % 2 != (u : Int) % 2) = false := by rw [bne_eq_false_iff_eq]; omega
       have E := hide (lens_at HK8.out (HL.out.2 ⟨C1.out, by rw [← HV.out]; exact c2, c3⟩) HNO.out)
       have C2 := hide c2
       clear c2 c3
       have HGn := hide (HG.out.keep B1.out)
       obtain ⟨mb', mo', hmb', cn⟩ := mate_at HGn.out.m hgg
       injection hmb' with hmb'
       injection hmb' with hmb1 hmb2
       subst hmb1
       subst hmb2
       have hmg := hd.lt g hgg
       obtain ⟨up, hup⟩ : ∃ up, up = d.m g := ⟨_, rfl⟩
       rw [← hup] at cn hmg
       have HUP := hide hup
       clear hup
       obtain ⟨p0, p1, p2, p3, p4, p5, p6, p7, p8⟩ := box8 R1.out
       go_wp2_with fail
       refine (opp_i (h : Int) _ (by omega)).mono ?_
       rintro e w4 ⟨rfl, rfl⟩
       go_wp2_with fail
       refine (opp_i (up : Int) _ (by omega)).mono ?_
       rintro e w5 ⟨rfl, rfl⟩
       go_wp2_with fail
       refine (opp_i (u : Int) _ (by omega)).mono ?_
       rintro e w6 ⟨rfl, rfl⟩
       go_wp2_with fail
       refine (opp_i (g : Int) _ (by omega)).mono ?_
       rintro e w7 ⟨rfl, rfl⟩
       have hlt := R1.out.lt
       go_wp2
       refine bodyPost_ret (v := .tuple #[lensV d h, .bool true]) ?_ rfl ?_
       ·obtain ⟨e0, e1, e2, e3, e4, e5, e6, e7, _⟩ := box8 ((row8 R1.out rfl (.int .i64 (h : Int)) (.int .i64 (up : Int)) (.int .i64 (Pl.tn h 2 : Int)) (.int .i64 (Pl.tn up 2 : Int)) (.int .i64 (Pl.tn u 2 : Int)) (.int .i64 (g : Int)) (.int .i64 (u : Int)) (.int .i64 (Pl.tn g 2 : Int))).alloc (.cells #[.int .i64 (h : Int), .int .i64 (up : Int), .int .i64 (Pl.tn h 2 : Int), .int .i64 (Pl.tn up 2 : Int), .int .i64 (Pl.tn u 2 : Int), .int .i64 (g : Int), .int .i64 (u : Int), .int .i64 (Pl.tn g 2 : Int)] 121))
        unfold lensV
        rw [← HGX.out, ← HU.out, ← HUP.out]
        simp [results, Tryz.results96, go_sem, e0, e1, e2, e3, e4, e5, e6, e7]
       ·refine ⟨?_, Below.alloc (below_set8 B1.out (by omega) _ _ _ _ _ _ _ _) (below_set8 B1.out (by omega) _ _ _ _ _ _ _ _).size _⟩
        rw [E.out]
        show _ = Ending.returned (.tuple #[lensV d (lnH x y k), .bool true])
        rw [← HH.out]
      ·have t3 : ((h : Int) % 2 != (u : Int) % 2) = true := by rw [bne_iff_ne]; omega
       have E := hide (show ¬ isL d x y k from fun h => c3 (HL.out.1 h).2.2)
       clear c2 c3
       go_wp2_with fail
       go_roundg (gk - 1)
       case measure => have := HKG.out; have := HK8.out; omega
       case rel => exact ⟨k + 1, by have := HKG.out; have := HK8.out; omega, by go_num, find_more HNO.out E.out, B1.out, X1.out, R1.out⟩
     ·have t2 : ((v : Int) != (h : Int)) = true := by rw [bne_iff_ne]; omega
      have E := hide (show ¬ isL d x y k from fun h => c2 (by rw [HV.out]; exact (HL.out.1 h).2.1))
      clear c2
      go_wp2_with fail
      go_roundg (gk - 1)
      case measure => have := HKG.out; have := HK8.out; omega
      case rel => exact ⟨k + 1, by have := HKG.out; have := HK8.out; omega, by go_num, find_more HNO.out E.out, B1.out, X1.out, R1.out⟩
    ·have t1 : ((g : Int) / 4 != (o : Int)) = true := by rw [bne_iff_ne]; omega
     have E := hide (show ¬ isL d x y k from fun h => c1 (HL.out.1 h).1)
     clear c1
     go_wp2_with fail
     go_roundg (gk - 1)
     case measure => have := HKG.out; have := HK8.out; omega
     case rel => exact ⟨k + 1, by have := HKG.out; have := HK8.out; omega, by go_num, find_more HNO.out E.out, B1.out, X1.out, R1.out⟩
end Go.Proofs.YtlffopdoeobgaaaGreatDoor
end
