/-
  The texts Wm, Xa, Xe, Ws, Wu, Wo, Wn, Wx, Xb, Xc, Xd, Wy, Wq, Wz in one.
-/
import Derived.Test.YtlffopdoeobgaaaGreatDoorL04
import Derived.Deep.RegionHeld3
import Derived.Deep.DrawnRows
import Derived.Outline
import Derived.Deep.DeepCutAuto
import Derived.Deep.CutBlock
import Derived.Test.YtlffopdoeobgaaaGreatDoorL03
import Derived.Laws.MakeOwn
import Derived.RegionTactic
import Derived.Deep.RegionWith
import Derived.StillTailTactics
set_option linter.unusedVariables false
set_option linter.unusedSimpArgs false

section
namespace Go.Proofs.YtlffopdoeobgaaaGreatDoor
open Go Go.RowKit
structure UC (w : World) (gi : Nat) (x0 x1 x2 y0 y1 y2 y3 y4 : Value) (W : World) : Prop where
  d : Row W w.heap.size 24 [x0, x1, x2]
  i : Row W gi 36 [y0, y1, y2, y3, y4]
  rd : ∃ vs, Row W (w.heap.size + 1 + 1) 24 vs ∧ vs.length = 3
  rm : ∃ us, Row W (w.heap.size + 1 + 1 + 1) 36 us ∧ us.length = 5
  bel : Below w.heap.size w W
  lo : w.heap.size + 1 + 1 + 1 < gi
section
variable {w : World} {gi : Nat} {x0 x1 x2 y0 y1 y2 y3 y4 : Value} {W W' : World}
theorem UC.drew (h : UC w gi x0 x1 x2 y0 y1 y2 y3 y4 W) : UC w gi x0 x1 x2 y0 y1 y2 y3 y4 W.drew := ⟨h.d, h.i, h.rd, h.rm, h.bel.drew, h.lo⟩
theorem UC.below (h : UC w gi x0 x1 x2 y0 y1 y2 y3 y4 W) (hb : Below W.heap.size W W') : UC w gi x0 x1 x2 y0 y1 y2 y3 y4 W' :=
  let ⟨vs, r1, l1⟩ := h.rd
  let ⟨us, r2, l2⟩ := h.rm
  ⟨h.d.below hb, h.i.below hb, ⟨vs, r1.below hb, l1⟩, ⟨us, r2.below hb, l2⟩, h.bel.trans (hb.mono h.bel.size), h.lo⟩
theorem UC.alloc (h : UC w gi x0 x1 x2 y0 y1 y2 y3 y4 W) (o : Obj) : UC w gi x0 x1 x2 y0 y1 y2 y3 y4 (W.alloc o) := h.below ((Below.refl _ _).alloc (Nat.le_refl _) o)
theorem UC.setD (h : UC w gi x0 x1 x2 y0 y1 y2 y3 y4 W) (o : Nat) (v : Value) : UC w gi x0 x1 x2 y0 y1 y2 y3 y4 (W.setCell ⟨w.heap.size + 1 + 1, o, none⟩ v) :=
  let ⟨vs, r1, l1⟩ := h.rd
  let ⟨us, r2, l2⟩ := h.rm
  have hl := h.lo
  ⟨h.d.other (by show _ ≠ w.heap.size + 1 + 1; omega) v, h.i.other (by show _ ≠ w.heap.size + 1 + 1; omega) v, ⟨vs.set o v, r1.set o v, by rw [List.length_set, l1]⟩, ⟨us, r2.other (by show _ ≠ w.heap.size + 1 + 1; omega) v, l2⟩, h.bel.setCell (by show _ ≤ w.heap.size + 1 + 1; omega) v, h.lo⟩
theorem UC.setM (h : UC w gi x0 x1 x2 y0 y1 y2 y3 y4 W) (o : Nat) (v : Value) : UC w gi x0 x1 x2 y0 y1 y2 y3 y4 (W.setCell ⟨w.heap.size + 1 + 1 + 1, o, none⟩ v) :=
  let ⟨vs, r1, l1⟩ := h.rd
  let ⟨us, r2, l2⟩ := h.rm
  have hl := h.lo
  ⟨h.d.other (by show _ ≠ w.heap.size + 1 + 1 + 1; omega) v, h.i.other (by show _ ≠ w.heap.size + 1 + 1 + 1; omega) v, ⟨vs, r1.other (by show _ ≠ w.heap.size + 1 + 1 + 1; omega) v, l1⟩, ⟨us.set o v, r2.set o v, by rw [List.length_set, l2]⟩, h.bel.setCell (by show _ ≤ w.heap.size + 1 + 1 + 1; omega) v, h.lo⟩
theorem UC.all (h : UC w gi x0 x1 x2 y0 y1 y2 y3 y4 W) : W.cell? ⟨w.heap.size, 0, none⟩ = some x0 ∧ W.cell? ⟨gi, 0, none⟩ = some y0 ∧ W.cell? ⟨gi, 1, none⟩ = some y1 ∧ W.cell? ⟨gi, 2, none⟩ = some y2 ∧ W.cell? ⟨gi, 3, none⟩ = some y3 ∧ W.cell? ⟨gi, 4, none⟩ = some y4 ∧
    W.cell? ⟨w.heap.size + 1 + 1, 0, none⟩ = some (cv W ⟨w.heap.size + 1 + 1, 0, none⟩) ∧ W.cell? ⟨w.heap.size + 1 + 1, 1, none⟩ = some (cv W ⟨w.heap.size + 1 + 1, 1, none⟩) ∧ W.cell? ⟨w.heap.size + 1 + 1, 2, none⟩ = some (cv W ⟨w.heap.size + 1 + 1, 2, none⟩) ∧
    W.cell? ⟨w.heap.size + 1 + 1 + 1, 0, none⟩ = some (cv W ⟨w.heap.size + 1 + 1 + 1, 0, none⟩) ∧ W.cell? ⟨w.heap.size + 1 + 1 + 1, 1, none⟩ = some (cv W ⟨w.heap.size + 1 + 1 + 1, 1, none⟩) ∧ W.cell? ⟨w.heap.size + 1 + 1 + 1, 2, none⟩ = some (cv W ⟨w.heap.size + 1 + 1 + 1, 2, none⟩) ∧ W.cell? ⟨w.heap.size + 1 + 1 + 1, 3, none⟩ = some (cv W ⟨w.heap.size + 1 + 1 + 1, 3, none⟩) ∧ W.cell? ⟨w.heap.size + 1 + 1 + 1, 4, none⟩ = some (cv W ⟨w.heap.size + 1 + 1 + 1, 4, none⟩) ∧
    (∀ o, W.frozen? ⟨w.heap.size + 1 + 1, o, none⟩ = false) ∧ (∀ o, W.frozen? ⟨w.heap.size + 1 + 1 + 1, o, none⟩ = false) ∧ UC w gi x0 x1 x2 y0 y1 y2 y3 y4 W := by
  obtain ⟨vs, r1, l1⟩ := h.rd
  obtain ⟨us, r2, l2⟩ := h.rm
  obtain ⟨d0, _, _, _⟩ := box3 h.d
  obtain ⟨i0, i1, i2, i3, i4, _⟩ := box5 h.i
  exact ⟨d0, i0, i1, i2, i3, i4, cv_some (r1.cell (i := 0) (by omega)), cv_some (r1.cell (i := 1) (by omega)), cv_some (r1.cell (i := 2) (by omega)), cv_some (r2.cell (i := 0) (by omega)), cv_some (r2.cell (i := 1) (by omega)), cv_some (r2.cell (i := 2) (by omega)), cv_some (r2.cell (i := 3) (by omega)), cv_some (r2.cell (i := 4) (by omega)), r1.free, r2.free, h⟩
end
theorem own_ints' {w : World} {base : Nat} {e : TypeId} {A : Option Addr} {n c : Nat} {zs : List Int} (h : w.ownsRow base e 1 (.slice A n c) n (zs.map (.int .i64))) : IntsAt w A n zs := by
  have hl := h.1
  rcases h.2 with ⟨h1, h2⟩ | ⟨g, cap, cur, h1, _⟩
  · subst h2
    exact ⟨by simpa using hl, fun h => absurd h (by omega)⟩
  · injection h1 with h1 _ h3
    subst h1
    exact own_ints h
theorem map_nats (l : List Nat) : (nats l).map (Value.int .i64) = l.map (fun k : Nat => Value.int .i64 k) := by unfold nats; rw [List.map_map]; rfl
theorem getD_m {d : Pl.Dg} {k : Nat} (hk : k < d.mt.length) : d.mt.getD k 0 = d.m k := by
  unfold Pl.Dg.m
  rw [List.getD_eq_getElem?_getD, List.getD_eq_getElem?_getD, List.getElem?_eq_getElem hk]; rfl
theorem getD_le {d : Pl.Dg} (hd : Pl.Wf d) (h : Nat) : d.mt.getD h 0 ≤ 256 := by
  have hn := hd.few
  have hl := hd.len
  by_cases hh : h < d.mt.length
  · rw [getD_m hh]
    have := hd.lt h (by omega)
    omega
  · rw [List.getD_eq_getElem?_getD, List.getElem?_eq_none (by omega)]
    exact Nat.zero_le _
theorem set_le {l : List Nat} {N a b : Nat} (h : ∀ k, l.getD k 0 ≤ N) (hb : b ≤ N) : ∀ k, (l.set a b).getD k 0 ≤ N := by
  intro k
  have hk := h k
  rw [List.getD_eq_getElem?_getD] at hk ⊢
  rw [List.getElem?_set]
  split
  · split
    · simpa using hb
    · simp
  · exact hk
theorem jn_le {l : List Nat} {N a b : Nat} (h : ∀ k, l.getD k 0 ≤ N) (ha : a ≤ N) (hb : b ≤ N) : ∀ k, (jn l a b).getD k 0 ≤ N := set_le (set_le h hb) ha
def kA (d : Pl.Dg) (c : Nat) : Nat := Pl.tn (kk d c) 2
def kB (d : Pl.Dg) (c : Nat) : Nat := Pl.tn (d.m (kk d c)) 2
def uncC (d : Pl.Dg) (c : Nat) : Int := if d.m (kk d c) / 4 = c then (if d.m (kA d c) = kB d c then (if 64 < d.lp + 1 then 5 else 0) else 0) else 6
def unM (d : Pl.Dg) (c : Nat) : List Nat := if d.m (kA d c) = kB d c then d.mt else jn d.mt (d.m (kA d c)) (d.m (kB d c))
def unD (d : Pl.Dg) (c : Nat) : Pl.Dg := ⟨Pl.shrS [c] d.sg, Pl.shrM [c] d.n (unM d c), if d.m (kA d c) = kB d c then d.lp + 1 else d.lp⟩
def unI (d : Pl.Dg) (c : Nat) : Mv := ⟨1, if d.m (kA d c) = kB d c then -1 else (Pl.shf [c] (d.m (kA d c)) : Nat), 0, d.s c, decide (kA d c % 2 = 1)⟩
def UncPost (d : Pl.Dg) (c : Nat) (w : World) (e : Ending) (w' : World) : Prop := (uncC d c ≠ 0 → ResErr (uncC d c) e) ∧ (uncC d c = 0 → ResOk (unD d c) (unI d c) e w') ∧ Below w.heap.size w w'
theorem kk_lt {d : Pl.Dg} {c : Nat} (hc : c < d.n) : kk d c < 4 * d.n := by unfold kk; split <;> (try split) <;> omega
theorem kA_lt {d : Pl.Dg} {c : Nat} (hc : c < d.n) : kA d c < 4 * d.n := Pl.tn_lt (kk_lt hc)
theorem kB_lt {d : Pl.Dg} (hd : Pl.Wf d) {c : Nat} (hc : c < d.n) : kB d c < 4 * d.n := Pl.tn_lt (hd.lt _ (kk_lt hc))
theorem shrunk_sl (gs : List Nat) (sg : List Int) (mt : List Nat) (lp : Int) (A B C : Option Addr) (n q r cp cq cr : Nat) (w : World) (hs : IntsAt w A n sg) (hm : IntsAt w B q (nats mt)) (hg : IntsAt w C r (nats gs)) (hf : Pl.Few gs)
    (hq : q = 4 * n) (hcq : q ≤ cq) (hcq2 : cq ≤ maxLen) (hn : n ≤ 100) (hr : 1 ≤ r ∧ r ≤ 100) (hmt : ∀ h, mt.getD h 0 ≤ 1000) :
    Calls Tryz.prog 87 #[.slice A n cp, .slice B q cq, .int .i64 lp, .slice C r cr] w fun e w' => ∃ (A7 A8 : Option Addr) (c7 c8 : Nat), e = .returned (.agg #[.slice A7 (Pl.left sg.length gs).length c7, .slice A8 (4 * (Pl.left sg.length gs).length) c8, .int .i64 lp]) ∧
      w'.ownsRow (w.heap.size + 2) 3 1 (.slice A7 (Pl.left sg.length gs).length c7) (Pl.left sg.length gs).length ((Pl.shrS gs sg).map (.int .i64)) ∧ w'.ownsRow (w.heap.size + 2) 3 1 (.slice A8 (4 * (Pl.left sg.length gs).length) c8) (4 * (Pl.left sg.length gs).length) ((Pl.shrM gs sg.length mt).map (fun k : Nat => Value.int .i64 k)) ∧ Below w.heap.size w w' := by
  refine (shrunk_any gs sg mt lp A B C n q r cp cq cr w hs hm hg hf hq hcq hcq2 hn hr hmt).mono ?_
  rintro e w' ⟨vS, vM, rfl, o1, o2, hb⟩
  obtain ⟨A7, c7, rfl⟩ := owns_slice o1
  obtain ⟨A8, c8, rfl⟩ := owns_slice o2
  exact ⟨A7, A8, c7, c8, rfl, o1, o2, hb⟩
def W4 (w : World) (x0 x1 x2 y0 y1 y2 y3 y4 : Value) : World := ((((w.alloc (.cells #[x0, x1, x2] 24)).alloc (.cells #[y0, y1, y2, y3, y4] 36)).alloc (.cells #[.slice none 0 0, .slice none 0 0, .int .i64 0] 24)).alloc (.cells #[.int .i64 0, .int .i64 0, .int .i64 0, .int .i64 0, .bool false] 36))
theorem row_at {W : World} {t : TypeId} {vs : List Value} {g : Nat} (h : g = W.heap.size) : Row (W.alloc (.cells vs.toArray t)) g t vs := by subst h; exact Row.new W t vs
theorem boxes4 (w : World) (x0 x1 x2 y0 y1 y2 y3 y4 : Value) :
    Row (W4 w x0 x1 x2 y0 y1 y2 y3 y4) w.heap.size 24 [x0, x1, x2] ∧ Row (W4 w x0 x1 x2 y0 y1 y2 y3 y4) (w.heap.size + 1) 36 [y0, y1, y2, y3, y4] ∧ Row (W4 w x0 x1 x2 y0 y1 y2 y3 y4) (w.heap.size + 1 + 1) 24 [.slice none 0 0, .slice none 0 0, .int .i64 0] ∧
    Row (W4 w x0 x1 x2 y0 y1 y2 y3 y4) (w.heap.size + 1 + 1 + 1) 36 [.int .i64 0, .int .i64 0, .int .i64 0, .int .i64 0, .bool false] ∧ Below w.heap.size w (W4 w x0 x1 x2 y0 y1 y2 y3 y4) ∧ (W4 w x0 x1 x2 y0 y1 y2 y3 y4).heap.size = w.heap.size + 4 := by
  unfold W4
  refine ⟨(((row_at (vs := [x0, x1, x2]) rfl).alloc _).alloc _).alloc _, ((row_at (vs := [y0, y1, y2, y3, y4]) (by simp)).alloc _).alloc _, (row_at (vs := [.slice none 0 0, .slice none 0 0, .int .i64 0]) (by simp)).alloc _, row_at (vs := [.int .i64 0, .int .i64 0, .int .i64 0, .int .i64 0, .bool false]) (by simp), ?_, by simp⟩
  exact ((((Below.refl _ _).alloc (Nat.le_refl _) _).alloc (by simp) _).alloc (by simp; omega) _).alloc (by simp; omega) _
end Go.Proofs.YtlffopdoeobgaaaGreatDoor
end

section
namespace Go.Proofs.YtlffopdoeobgaaaGreatDoor
open Go Go.RowKit
def lnH (x y i : Nat) : Nat := if i < 4 then 4 * x + i else 4 * y + i - 4
def lnO (x y i : Nat) : Nat := if i < 4 then y else x
def isL (d : Pl.Dg) (x y i : Nat) : Prop := Pl.nx d (lnH x y i) / 4 = lnO x y i ∧ Pl.nx d (Pl.nx d (lnH x y i)) = lnH x y i ∧ lnH x y i % 2 = d.m (lnH x y i) % 2
instance (d : Pl.Dg) (x y i : Nat) : Decidable (isL d x y i) := by unfold isL; infer_instance
def lensI (d : Pl.Dg) (x y : Nat) : Option Nat := (List.range 8).find? (fun i => decide (isL d x y i))
end Go.Proofs.YtlffopdoeobgaaaGreatDoor
end

section
namespace Go.Proofs.YtlffopdoeobgaaaGreatDoor
open Go Go.RowKit
attribute [local go_sem ↓] Go.wp_at_zero Go.wp_at_succ
def eo (d : Pl.Dg) (o : Nat) : Nat := if Pl.out d o = true then o else d.m o
def ei (d : Pl.Dg) (o : Nat) : Nat := d.m (eo d o)
def isO (d : Pl.Dg) (o : Nat) : Bool := eo d o % 2 == 1 && ei d o % 2 == 1
def isU (d : Pl.Dg) (o : Nat) : Bool := eo d o % 2 == 0 && ei d o % 2 == 0
def th (d : Pl.Dg) (h k : Nat) : Nat := if k = 0 then h else if k = 1 then Pl.nx d h else Pl.nx d (Pl.nx d h)
def is3 (d : Pl.Dg) (h : Nat) : Prop := Pl.nx d (th d h 2) = h ∧ h / 4 ≠ th d h 1 / 4 ∧ th d h 1 / 4 ≠ th d h 2 / 4 ∧ h / 4 ≠ th d h 2 / 4
def cntO (d : Pl.Dg) (h k : Nat) : Nat := ((List.range k).filter (fun i => isO d (th d h i))).length
def cntU (d : Pl.Dg) (h k : Nat) : Nat := ((List.range k).filter (fun i => isU d (th d h i))).length
def isT (d : Pl.Dg) (h : Nat) : Prop := is3 d h ∧ cntO d h 3 = 1 ∧ cntU d h 3 = 1
section
variable {w W W' : World} {dv ev : List Value}
end
end Go.Proofs.YtlffopdoeobgaaaGreatDoor
end

section
namespace Go.Proofs.YtlffopdoeobgaaaGreatDoor
open Go Go.RowKit
theorem RowT.store {w : World} {t t' : TypeId} {A : Option Addr} {n : Nat} {xs : List Value} {g i : Nat} {vs : List Value} (h : RowT w t A n xs) (hr : Row w g t' vs) (hne : t ≠ t') (v : Value) : RowT (w.setCell ⟨g, i, none⟩ v) t A n xs :=
  ⟨h.1, fun hn => let ⟨b, o, cs, fr, e, hb, hc⟩ := h.2 hn; ⟨b, o, cs, fr, e, (Below.heap_setCell w _ v b (fun he => by
      have hr' := hr
      unfold Row at hr'
      have he' : b = g := he
      rw [he', hr'] at hb
      injection hb with hb
      injection hb with _ h4
      exact hne h4.symm)).trans hb, hc⟩⟩
theorem own_rowT {w : World} {base : Nat} {t : TypeId} {A : Option Addr} {n c : Nat} {xs : List Value} (h : w.ownsRow base t 1 (.slice A n c) n xs) : RowT w t A n xs := by
  refine ⟨by simpa using h.1, fun hn => ?_⟩
  rcases h.2 with ⟨_, h2⟩ | ⟨g, cap, cur, h1, _, h3, _, _, _, h5⟩
  · omega
  · injection h1 with h1 _ _
    refine ⟨g, 0, cur, (0, 0), h1, h3, fun j u hu => ?_⟩
    rw [Nat.zero_add]
    have hj : j < n := by
      have := (List.getElem?_eq_some_iff.1 hu).1
      have := h.1
      omega
    rw [← h5, List.getElem?_take, if_pos (by omega)] at hu
    rw [← hu]
    simp
def FaceAt (w : World) (v : Value) (l : List Nat) : Prop := ∃ A c, v = .slice A l.length c ∧ RowT w 3 A l.length (l.map (fun k : Nat => Value.int .i64 k))
def Vs (w : World) (vs : List Value) (fs : List (List Nat)) : Prop := vs.length = fs.length ∧ ∀ (i : Nat) l, fs[i]? = some l → ∃ v, vs[i]? = some v ∧ FaceAt w v l
def Far (base : Nat) (vs : List Value) : Prop := ∀ v, v ∈ vs → ∀ g, v.ownBlock = some g → base ≤ g
theorem rowInfo : (Tryz.prog.info? 22).map (fun i => (i.zero, i.size, i.bytes)) = some (some (.slice none 0 0), 1, 24) := by kernel_rfl
end Go.Proofs.YtlffopdoeobgaaaGreatDoor
end

section
namespace Go.Proofs.YtlffopdoeobgaaaGreatDoor
open Go Go.RowKit
theorem mk_self (d : Pl.Dg) : Pl.mk d.sg (nats d.mt) d.lp = d := by
  unfold Pl.mk nats
  rw [List.map_map]
  have : (Int.toNat ∘ fun m : Nat => (m : Int)) = id := by funext x; rfl
  rw [this, List.map_id]
  rfl
theorem vl_of {d : Pl.Dg} : Pl.VL d.sg (nats d.mt) d.lp ↔ Pl.Valid d := by
  constructor
  · intro h; have := h.1; rwa [mk_self] at this
  · intro h; exact ⟨by rw [mk_self]; exact h, fun z hz => by unfold nats at hz; obtain ⟨m, _, rfl⟩ := List.mem_map.1 hz; omega, by omega⟩
theorem valid_yes (d : Pl.Dg) (hd : Pl.Valid d) (A B : Option Addr) (cp cq m : Nat) (w : World) (hm : m = 4 * d.n) (hg : DgAt w A B d) :
    Calls Tryz.prog 20 #[.agg #[.slice A d.n cp, .slice B m cq, .int .i64 d.lp]] w fun e w' => e = .returned (.bool true) ∧ Below w.heap.size w w' := by
  have hn := hd.wf.few
  have hl := hd.wf.lp
  refine (valid_any d.sg (nats d.mt) d.lp A B d.n m cp cq w hg.s (by rw [hm]; exact hg.m) (by unfold maxLen; omega) (by unfold maxLen; omega) (by omega)).mono ?_
  rintro e w' ⟨h1, h2⟩
  rw [Pl.vb_true (vl_of.2 hd)] at h1
  exact ⟨h1, h2⟩
end Go.Proofs.YtlffopdoeobgaaaGreatDoor
end

section
namespace Go.Proofs.YtlffopdoeobgaaaGreatDoor
open Go Go.RowKit
def plc (c f s : Nat) : Nat := 4 * c + (s + 4 - f) % 4
def fwd (d : Pl.Dg) (x : Int) : Bool := if x = -1 then true else if 0 ≤ x then Pl.out d x.toNat else false
end Go.Proofs.YtlffopdoeobgaaaGreatDoor
end

section
namespace Go.Proofs.YtlffopdoeobgaaaGreatDoor
open Go Go.RowKit
attribute [local go_sem ↓] Go.wp_at_zero Go.wp_at_succ
theorem below8 {w W : World} (h : Below w.heap.size w W) (y0 y1 y2 z0 z1 z2 z3 z4 : Value) :
    Below w.heap.size w ((((((((W.setCell ⟨w.heap.size + 1 + 1, 0, none⟩ y0).setCell ⟨w.heap.size + 1 + 1, 1, none⟩ y1).setCell ⟨w.heap.size + 1 + 1, 2, none⟩ y2).setCell ⟨w.heap.size + 1 + 1 + 1, 0, none⟩ z0).setCell ⟨w.heap.size + 1 + 1 + 1, 1, none⟩ z1).setCell ⟨w.heap.size + 1 + 1 + 1, 2, none⟩ z2).setCell ⟨w.heap.size + 1 + 1 + 1, 3, none⟩ z3).setCell ⟨w.heap.size + 1 + 1 + 1, 4, none⟩ z4) :=
  (((((((h.setCell (by show _ ≤ w.heap.size + 1 + 1; omega) _).setCell (by show _ ≤ w.heap.size + 1 + 1; omega) _).setCell (by show _ ≤ w.heap.size + 1 + 1; omega) _).setCell (by show _ ≤ w.heap.size + 1 + 1 + 1; omega) _).setCell (by show _ ≤ w.heap.size + 1 + 1 + 1; omega) _).setCell (by show _ ≤ w.heap.size + 1 + 1 + 1; omega) _).setCell (by show _ ≤ w.heap.size + 1 + 1 + 1; omega) _).setCell (by show _ ≤ w.heap.size + 1 + 1 + 1; omega) _
theorem one_ints (W : World) (c : Nat) : IntsAt (W.alloc (.cells #[.int .i64 (c : Int)] 3)).drew (some ⟨W.heap.size, 0, none⟩) 1 (nats [c]) := by
  refine IntsAt.drew ⟨rfl, fun _ => ⟨_, 0, rfl, fun j u hu => ?_⟩⟩
  match j, hu with
  | 0, hu => simp [nats] at hu; subst hu; exact (Lib.cell_of_heap (heap_alloc_new W _) 0).trans rfl
theorem one_ints' (W : World) (c : Nat) {g : Nat} (h : g = W.heap.size) : IntsAt (W.alloc (.cells #[.int .i64 (c : Int)] 3)) (some ⟨g, 0, none⟩) 1 (nats [c]) := by
  subst h
  exact one_ints W c
theorem OwnN.alloc {w : World} {base g n c : Nat} {l : List Nat} (h : OwnN w base g n c l) (o : Obj) : OwnN (w.alloc o) base g n c l := World.ownsRow.alloc h o
theorem OwnN.caps {w : World} {base g n c : Nat} {l : List Nat} (h : OwnN w base g n c l) : n ≤ c ∧ c ≤ maxLen := by
  rcases h.2 with ⟨h1, h2⟩ | ⟨g', cap, cur, h1, _, _, h4, h5, _⟩
  · injection h1 with h1; injection h1
  · injection h1 with _ _ h3
    subst h3
    exact ⟨h4, h5⟩
theorem own8 {w W : World} {base : Nat} {v : Value} {n : Nat} {xs : List Value} (h : W.ownsRow base 3 1 v n xs) (hb : w.heap.size + 1 + 1 + 1 < base) (y0 y1 y2 z0 z1 z2 z3 z4 : Value) :
    ((((((((W.setCell ⟨w.heap.size + 1 + 1, 0, none⟩ y0).setCell ⟨w.heap.size + 1 + 1, 1, none⟩ y1).setCell ⟨w.heap.size + 1 + 1, 2, none⟩ y2).setCell ⟨w.heap.size + 1 + 1 + 1, 0, none⟩ z0).setCell ⟨w.heap.size + 1 + 1 + 1, 1, none⟩ z1).setCell ⟨w.heap.size + 1 + 1 + 1, 2, none⟩ z2).setCell ⟨w.heap.size + 1 + 1 + 1, 3, none⟩ z3).setCell ⟨w.heap.size + 1 + 1 + 1, 4, none⟩ z4).ownsRow base 3 1 v n xs :=
  ownsRow_setCell_below (ownsRow_setCell_below (ownsRow_setCell_below (ownsRow_setCell_below (ownsRow_setCell_below (ownsRow_setCell_below (ownsRow_setCell_below (ownsRow_setCell_below h (by show w.heap.size + 1 + 1 < base; omega) _) (by show w.heap.size + 1 + 1 < base; omega) _) (by show w.heap.size + 1 + 1 < base; omega) _) (by show w.heap.size + 1 + 1 + 1 < base; omega) _) (by show w.heap.size + 1 + 1 + 1 < base; omega) _) (by show w.heap.size + 1 + 1 + 1 < base; omega) _) (by show w.heap.size + 1 + 1 + 1 < base; omega) _) (by show w.heap.size + 1 + 1 + 1 < base; omega) _
theorem closed_yes (base g n cap a b : Nat) (l : List Nat) (w : World) (h : OwnN w base g n cap l) (ha : a < n) (hb : b < n) (hn : n ≤ 100000) (hl : ∀ k, k < n → l.getD k 0 < n) (hy : l.getD a 0 = b) :
    Calls Tryz.prog 85 #[.slice (some ⟨g, 0, none⟩) n cap, .int .i64 (a : Int), .int .i64 (b : Int)] w fun e w' => e = .returned (.int .i64 1) ∧ OwnN w' base g n cap l ∧ w.grownBy w' (some g) := by
  refine (closed_any base g n cap a b l w h ha hb hn hl).mono ?_
  rintro e w' ⟨h1, h2, h3⟩
  rw [if_pos hy] at h1 h2
  exact ⟨h1, h2, h3⟩
theorem closed_no (base g n cap a b : Nat) (l : List Nat) (w : World) (h : OwnN w base g n cap l) (ha : a < n) (hb : b < n) (hn : n ≤ 100000) (hl : ∀ k, k < n → l.getD k 0 < n) (hy : ¬ l.getD a 0 = b) :
    Calls Tryz.prog 85 #[.slice (some ⟨g, 0, none⟩) n cap, .int .i64 (a : Int), .int .i64 (b : Int)] w fun e w' => e = .returned (.int .i64 0) ∧ OwnN w' base g n cap (jn l (l.getD a 0) (l.getD b 0)) ∧ w.grownBy w' (some g) := by
  refine (closed_any base g n cap a b l w h ha hb hn hl).mono ?_
  rintro e w' ⟨h1, h2, h3⟩
  rw [if_neg hy] at h1 h2
  exact ⟨h1, h2, h3⟩
set_option maxRecDepth 100000 in
set_option maxHeartbeats 4000000 in
theorem uncurl_any (d : Pl.Dg) (hd : Pl.Wf d) (A B : Option Addr) (cp cq c : Nat) (k y sg : Int) (ov : Bool) (w : World) (hg : DgAt w A B d) (hc : c < d.n) :
    Calls Tryz.prog 47 #[.agg #[.slice A d.n cp, .slice B (4 * d.n) cq, .int .i64 d.lp], .agg #[.int .i64 k, .int .i64 (c : Int), .int .i64 y, .int .i64 sg, .bool ov]] w (UncPost d c w) := by
  have hn := hd.few
  have hlp := hd.lp
  obtain ⟨m, hm⟩ : ∃ m, m = 4 * d.n := ⟨_, rfl⟩
  have HG := hide hg
  clear hg
  rw [← hm]
  have HM := hide hm
  clear hm
  obtain ⟨x0, x1, x2, x3, b0, s0⟩ := boxes4 w (.slice A d.n cp) (.slice B m cq) (.int .i64 d.lp) (.int .i64 k) (.int .i64 (c : Int)) (.int .i64 y) (.int .i64 sg) (.bool ov)
  unfold W4 at x0 x1 x2 x3 b0 s0
  have X0 := hide x0
  have X1 := hide x1
  have X2 := hide x2
  have X3 := hide x3
  have B0 := hide b0
  have S0 := hide s0
  clear x0 x1 x2 x3 b0 s0
  go_enter Tryz.func47, Tryz.ntmps47
  go_wp2_with fail
  refine (kink_any d hd A B cp cq m c _ HM.out (HG.out.keep B0.out) hc).mono ?_
  rintro e w1 ⟨rfl, hb1⟩
  have Y0 := hide (X0.out.below hb1)
  have Y1 := hide (X1.out.below hb1)
  have Y2 := hide (X2.out.below hb1)
  have Y3 := hide (X3.out.below hb1)
  have B1 := hide (B0.out.trans (hb1.mono B0.out.size))
  have hsz : w.heap.size + 4 ≤ w1.heap.size := by have := hb1.size; have := S0.out; omega
  clear X0 X1 X2 X3 B0 S0 hb1
  obtain ⟨f0, f1, f2, f3⟩ := box3 Y0.out
  obtain ⟨m0, m1, m2, m3, m4, m5⟩ := box5 Y1.out
  obtain ⟨p0, p1, p2, p3⟩ := box3 Y2.out
  obtain ⟨q0, q1, q2, q3, q4, q5⟩ := box5 Y3.out
  by_cases hK : d.m (kk d c) / 4 = c
  · rw [Pl.vb_true (show isK d c from hK)]
    unfold kinkE
    rw [if_pos rfl]
    have HK := hide hK
    clear hK
    have ha1 := kA_lt (d := d) hc
    have hb1 := kB_lt hd hc
    unfold kA at ha1
    unfold kB at hb1
    obtain ⟨a, ha⟩ : ∃ a, a = Pl.tn (kk d c) 2 := ⟨_, rfl⟩
    obtain ⟨b, hb⟩ : ∃ b, b = Pl.tn (d.m (kk d c)) 2 := ⟨_, rfl⟩
    rw [← ha, ← hb]
    rw [← ha] at ha1
    rw [← hb] at hb1
    have HA := hide (show a = kA d c from ha)
    have HB := hide (show b = kB d c from hb)
    clear ha hb
    have hml : d.mt.length = m := by have := hd.len; have := HM.out; omega
    have HML := hide hml
    have ham : a < m := by have := HM.out; omega
    have hbm : b < m := by have := HM.out; omega
    have hm1 : 0 < m := by omega
    have hm2 : m ≤ 256 := by have := HM.out; omega
    have HLT := hide (show ∀ k, k < m → d.mt.getD k 0 < m from fun k hk => by
      rw [getD_m (by rw [HML.out]; exact hk)]
      have := hd.lt k (by have := HM.out; omega)
      have := HM.out
      omega)
    have HGA := hide (show d.mt.getD a 0 = d.m a from getD_m (by rw [HML.out]; exact ham))
    have HGM := hide (show IntsAt w1 B m (nats d.mt) by rw [HM.out]; exact (HG.out.keep B1.out).m)
    clear hml
    obtain ⟨i0, hi0, hz0, hz1, hz2⟩ := info_parts intInfo
    go_wp2_with (at_builtin; refine wpList_append_ints _ rfl _ _ 22 rfl w1.heap.size 3 i0 (.int .i64 0) 8 Tryz.underlying22 hi0 hz0 hz1 hz2 rfl (.slice none 0 0) 0 [] (by rfl) (World.ownsRow_nil _ _ _ _) B m cq (nats d.mt) (by rfl) HGM.out (by unfold maxLen; omega) (by omega) (Nat.le_refl _) ?_; intro v2 w2 own2 grow2)
    simp only [Nat.zero_add, List.nil_append] at own2
    obtain ⟨A2, c2, rfl⟩ := owns_slice own2
    obtain ⟨g2, rfl, lo2, hi2⟩ := owns_pos hm1 own2
    have OWN2 := hide (show OwnN w2 w1.heap.size g2 m c2 d.mt by unfold OwnN; rw [← map_nats]; exact own2)
    have GR2 := hide grow2
    clear own2 grow2
    have Z0 := hide (Y0.out.grown GR2.out (by simp [Value.ownBlock]))
    have Z1 := hide (Y1.out.grown GR2.out (by simp [Value.ownBlock]))
    have Z2 := hide (Y2.out.grown GR2.out (by simp [Value.ownBlock]))
    have Z3 := hide (Y3.out.grown GR2.out (by simp [Value.ownBlock]))
    have B2 := hide (B1.out.grown GR2.out B1.out.size (fun k hk => by simp [Value.ownBlock] at hk))
    have hs2 := GR2.out.size
    clear f0 f1 f2 f3 m0 m1 m2 m3 m4 m5 p0 p1 p2 p3 q0 q1 q2 q3 q4 q5 Y0 Y1 Y2 Y3
    have HG2 := hide (HG.out.keep B2.out)
    by_cases hcl : d.m a = b
    · have HC := hide (show d.mt.getD a 0 = b by rw [HGA.out]; exact hcl)
      have HCL := hide hcl
      clear hcl
      obtain ⟨f0, f1, f2, f3⟩ := box3 Z0.out
      have hwr : IntKind.i64.wrap ((d.lp : Int) + 1) = (d.lp : Int) + 1 := IntWalk.i64_in _ (by omega)
      go_region_held3 (fun w' => w'.cell? ⟨w.heap.size, 2, none⟩ = some (.int .i64 (d.lp : Int))) (first | go_keep | assumption)
        (first
          | (go_at_call 85
             refine Calls.mono (closed_yes w1.heap.size g2 m c2 a b d.mt _ ?_ ham hbm (by omega) HLT.out HC.out) ?_
             · exact OwnN.drew' rfl OWN2.out
             rintro e w3 ⟨rfl, own3, gr3⟩
             obtain ⟨_, _, h2, _⟩ := box3 ((Z0.out.drew).grown gr3 (by intro h; injection h; omega))
             have OWN3 := hide own3
             have GR3 := hide gr3
             clear own3 gr3))
      clear hwr f0 f1 f2 f3 h2
      have V0 := hide ((Z0.out.drew).grown GR3.out (by intro h; injection h; omega))
      have V1 := hide ((Z1.out.drew).grown GR3.out (by intro h; injection h; omega))
      have V2 := hide ((Z2.out.drew).grown GR3.out (by intro h; injection h; omega))
      have V3 := hide ((Z3.out.drew).grown GR3.out (by intro h; injection h; omega))
      have B3 := hide ((B2.out.drew).grown GR3.out (B2.out.drew).size (fun k hk => by injection hk with hk; omega))
      have hs3 : w.heap.size + 4 ≤ w3.heap.size := by have := GR3.out.size; have : w2.drew.heap.size = w2.heap.size := rfl; omega
      have l1 : w.heap.size < w3.heap.size := by omega
      have l2 : w.heap.size + 1 < w3.heap.size := by omega
      have l3 : w.heap.size + 1 + 1 < w3.heap.size := by omega
      have l4 : w.heap.size + 1 + 1 + 1 < w3.heap.size := by omega
      obtain ⟨f0, f1, f2, f3⟩ := box3 V0.out
      obtain ⟨m0, m1, m2, m3, m4, m5⟩ := box5 V1.out
      obtain ⟨p0, p1, p2, p3⟩ := box3 V2.out
      obtain ⟨q0, q1, q2, q3, q4, q5⟩ := box5 V3.out
      by_cases hfull : 64 < d.lp + 1
      · have hfu : (64 : Int) < (d.lp : Int) + 1 := by omega
        go_wp2
        refine bodyPost_ret (v := .tuple #[nilD, nilM, .int .i64 5]) ?_ rfl ?_
        · obtain ⟨e0, e1, e2, e3, e4, e5, e6, e7⟩ := fin8 V2.out V3.out rfl rfl (by omega) (.slice none 0 0) (.slice none 0 0) (.int .i64 0) (.int .i64 0) (.int .i64 0) (.int .i64 0) (.int .i64 0) (.bool false)
          unfold nilD nilM
          simp [results, Tryz.results47, go_sem, e0, e1, e2, e3, e4, e5, e6, e7]
        · have e6 : uncC d c = 5 := by unfold uncC; rw [if_pos HK.out, ← HA.out, ← HB.out, if_pos HCL.out, if_pos hfull]
          refine ⟨fun _ => by rw [e6]; exact rfl, fun h => absurd h (by rw [e6]; decide), below8 B3.out _ _ _ _ _ _ _ _⟩
      · have hfu : (d.lp : Int) + 1 ≤ 64 := by omega
        have t3 : ((d.lp : Int) + 1 == (d.lp : Int)) = false := by rw [beq_eq_false_iff_ne]; omega
        have HG3 := hide (HG.out.keep B3.out)
        obtain ⟨ab, ao, rfl, hcs⟩ := sign_at HG3.out.s hc
        go_wp2_with fail
        obtain ⟨W5, hW5⟩ : ∃ W5 : World, W5 = w3.alloc (.cells #[.int .i64 1, .int .i64 (-1), .int .i64 0, .int .i64 (d.s c), .bool ((a : Int) % 2 == 1)] 36) := ⟨_, rfl⟩
        rw [← hW5]
        obtain ⟨bb, hbb⟩ : ∃ bb, bb = ((a : Int) % 2 == 1) := ⟨_, rfl⟩
        have HBB := hide hbb
        rw [← hbb] at hW5 ⊢
        clear hbb
        obtain ⟨gi, hgi⟩ : ∃ gi, gi = w3.heap.size := ⟨_, rfl⟩
        rw [← hgi]
        have HU := hide (show UC w gi (.slice (some ⟨ab, ao, none⟩) d.n cp) (.slice B m cq) (.int .i64 (d.lp : Int)) (.int .i64 1) (.int .i64 (-1)) (.int .i64 0) (.int .i64 (d.s c)) (.bool bb) W5 by
          rw [hW5]
          exact ⟨V0.out.alloc _, row_at (vs := [.int .i64 1, .int .i64 (-1), .int .i64 0, .int .i64 (d.s c), .bool bb]) hgi, ⟨_, V2.out.alloc _, rfl⟩, ⟨_, V3.out.alloc _, rfl⟩, B3.out.alloc (by omega) _, by omega⟩)
        obtain ⟨LL, hLL⟩ : ∃ LL, LL = d.mt := ⟨_, rfl⟩
        have HMo := hide (show OwnN W5 w1.heap.size g2 m c2 LL by rw [hW5, hLL]; exact OWN3.out.alloc _)
        have HLE := hide (show ∀ k, LL.getD k 0 ≤ 1000 from fun k => by rw [hLL]; exact Nat.le_trans (getD_le hd k) (by omega))
        have HG5 := hide (show DgAt W5 (some ⟨ab, ao, none⟩) B d from HG.out.keep HU.out.bel)
        have HLL := hide (show LL = unM d c by unfold unM; rw [← HA.out, ← HB.out, if_pos HCL.out, hLL])
        have HE0 := hide (show uncC d c = 0 by unfold uncC; rw [if_pos HK.out, ← HA.out, ← HB.out, if_pos HCL.out, if_neg hfull])
        clear hW5 hgi hLL f0 f1 f2 f3 m0 m1 m2 m3 m4 m5 p0 p1 p2 p3 q0 q1 q2 q3 q4 q5 hcs t3 l1 l2 l3 l4
        have HCAP := hide HMo.out.caps
        have KS := hide (IntsAt.drew ((HG5.out.s).alloc (.cells #[.int .i64 (c : Int)] 3)))
        have KM := hide (OwnN.ints (OwnN.drew' rfl (HMo.out.alloc (.cells #[.int .i64 (c : Int)] 3))))
        have KG := hide (one_ints W5 c)
        go_region_held3 (fun w' => w'.cell? ⟨w.heap.size, 0, none⟩ = some (.slice (some ⟨ab, ao, none⟩) d.n cp) ∧ w'.cell? ⟨gi, 0, none⟩ = some (.int .i64 1) ∧ w'.cell? ⟨gi, 1, none⟩ = some (.int .i64 (-1)) ∧ w'.cell? ⟨gi, 2, none⟩ = some (.int .i64 0) ∧ w'.cell? ⟨gi, 3, none⟩ = some (.int .i64 (d.s c)) ∧ w'.cell? ⟨gi, 4, none⟩ = some (.bool bb) ∧
            w'.cell? ⟨w.heap.size + 1 + 1, 0, none⟩ = some (cv w' ⟨w.heap.size + 1 + 1, 0, none⟩) ∧ w'.cell? ⟨w.heap.size + 1 + 1, 1, none⟩ = some (cv w' ⟨w.heap.size + 1 + 1, 1, none⟩) ∧ w'.cell? ⟨w.heap.size + 1 + 1, 2, none⟩ = some (cv w' ⟨w.heap.size + 1 + 1, 2, none⟩) ∧
            w'.cell? ⟨w.heap.size + 1 + 1 + 1, 0, none⟩ = some (cv w' ⟨w.heap.size + 1 + 1 + 1, 0, none⟩) ∧ w'.cell? ⟨w.heap.size + 1 + 1 + 1, 1, none⟩ = some (cv w' ⟨w.heap.size + 1 + 1 + 1, 1, none⟩) ∧ w'.cell? ⟨w.heap.size + 1 + 1 + 1, 2, none⟩ = some (cv w' ⟨w.heap.size + 1 + 1 + 1, 2, none⟩) ∧ w'.cell? ⟨w.heap.size + 1 + 1 + 1, 3, none⟩ = some (cv w' ⟨w.heap.size + 1 + 1 + 1, 3, none⟩) ∧ w'.cell? ⟨w.heap.size + 1 + 1 + 1, 4, none⟩ = some (cv w' ⟨w.heap.size + 1 + 1 + 1, 4, none⟩) ∧
            (∀ o, w'.frozen? ⟨w.heap.size + 1 + 1, o, none⟩ = false) ∧ (∀ o, w'.frozen? ⟨w.heap.size + 1 + 1 + 1, o, none⟩ = false) ∧ UC w gi (.slice (some ⟨ab, ao, none⟩) d.n cp) (.slice B m cq) (.int .i64 (d.lp : Int)) (.int .i64 1) (.int .i64 (-1)) (.int .i64 0) (.int .i64 (d.s c)) (.bool bb) w')
          ((go_split_ands; refine UC.all ?_; (repeat (first | (with_reducible assumption) | (with_reducible exact HU.out) | (with_reducible refine UC.setD ?_ _ _) | (with_reducible refine UC.setM ?_ _ _) | (with_reducible refine UC.alloc ?_ _) | (with_reducible refine UC.drew ?_) | (with_reducible refine UC.below ?_ hb6)))))
          (first
            | (go_at_call 87
               refine Calls.mono (shrunk_sl [c] d.sg LL ((d.lp : Int) + 1) (some ⟨ab, ao, none⟩) (some ⟨g2, 0, none⟩) (some ⟨W5.heap.size, 0, none⟩) d.n m 1 cp c2 1 _ ?_ ?_ ?_ (Pl.few_one c) HM.out HCAP.out.1 HCAP.out.2 (by omega) (by omega) HLE.out) ?_
               · exact KS.out
               · exact KM.out
               · exact KG.out
               rintro e w6 ⟨A7, A8, c7, c8, rfl, owS, owM, hb6⟩
               have OWS := hide owS
               have OWM := hide owM
               clear owS owM))
        all_goals
          have HU6 := hide (show UC w gi (.slice (some ⟨ab, ao, none⟩) d.n cp) (.slice B m cq) (.int .i64 (d.lp : Int)) (.int .i64 1) (.int .i64 (-1)) (.int .i64 0) (.int .i64 (d.s c)) (.bool bb) w6 from by
            repeat (first | (with_reducible assumption) | (with_reducible exact HU.out) | (with_reducible refine UC.alloc ?_ _) | (with_reducible refine UC.drew ?_) | (with_reducible refine UC.below ?_ hb6)))
          have hb6s : W5.heap.size + 1 + 2 ≤ w6.heap.size ∨ True := .inr trivial
          go_wp2
          obtain ⟨vs6, r6, l6⟩ := HU6.out.rd
          obtain ⟨us6, t6, k6⟩ := HU6.out.rm
          refine bodyPost_ret (v := .tuple #[.agg #[.slice A7 (Pl.left d.sg.length [c]).length c7, .slice A8 (4 * (Pl.left d.sg.length [c]).length) c8, .int .i64 ((d.lp : Int) + 1)], .agg #[.int .i64 1, .int .i64 (-1), .int .i64 0, .int .i64 (d.s c), .bool bb], .int .i64 0]) ?_ rfl ?_
          · obtain ⟨e0, e1, e2, e3, e4, e5, e6, e7⟩ := fin8 r6 t6 l6 k6 (by omega) (.slice A7 (Pl.left d.sg.length [c]).length c7) (.slice A8 (4 * (Pl.left d.sg.length [c]).length) c8) (.int .i64 ((d.lp : Int) + 1)) (.int .i64 1) (.int .i64 (-1)) (.int .i64 0) (.int .i64 (d.s c)) (.bool bb)
            simp [results, Tryz.results47, go_sem, e0, e1, e2, e3, e4, e5, e6, e7]
          · have hn7 : (unD d c).n = (Pl.left d.sg.length [c]).length := by unfold unD Pl.Dg.n; exact Pl.shrS_len _ _
            refine ⟨fun h => absurd HE0.out h, fun _ => ⟨A7, A8, c7, c8, ?_, ?_, ?_⟩, below8 HU6.out.bel _ _ _ _ _ _ _ _⟩
            · rw [hn7]
              unfold unD unI Mv.v
              simp only [← HA.out, ← HB.out, if_pos HCL.out]
              have e1 : ((d.lp + 1 : Nat) : Int) = (d.lp : Int) + 1 := by omega
              have e2 : decide (a % 2 = 1) = bb := by rw [HBB.out, Bool.eq_iff_iff]; simp; omega
              rw [e1, e2]
            · rw [hn7]
              refine own_intsT (base := (W5.alloc (.cells #[.int .i64 (c : Int)] 3)).drew.heap.size + 2) (e := 3) (c := c7) (own8 ?_ ?_ _ _ _ _ _ _ _ _)
              · exact OWS.out
              · have := HU.out.i.lt; have := HU.out.lo; simp; omega
            · rw [hn7]
              refine own_intsT (base := (W5.alloc (.cells #[.int .i64 (c : Int)] 3)).drew.heap.size + 2) (e := 3) (c := c8) (own8 ?_ ?_ _ _ _ _ _ _ _ _)
              · rw [map_nats]
                have := OWM.out
                rw [HLL.out] at this
                exact this
              · have := HU.out.i.lt; have := HU.out.lo; simp; omega
    · have HC := hide (show ¬ d.mt.getD a 0 = b by rw [HGA.out]; exact hcl)
      have HCL := hide hcl
      have HGB := hide (show d.mt.getD b 0 = d.m b from getD_m (by rw [HML.out]; exact hbm))
      clear hcl
      obtain ⟨f0, f1, f2, f3⟩ := box3 Z0.out
      have hwr : IntKind.i64.wrap (d.lp : Int) = (d.lp : Int) := IntWalk.i64_in _ (by omega)
      have hwr0 : IntKind.i64.wrap ((d.lp : Int) + 0) = (d.lp : Int) := by rw [Int.add_zero]; exact hwr
      go_region_held3 (fun w' => w'.cell? ⟨w.heap.size, 2, none⟩ = some (.int .i64 (d.lp : Int))) (first | go_keep | assumption)
        (first
          | (go_at_call 85
             refine Calls.mono (closed_no w1.heap.size g2 m c2 a b d.mt _ ?_ ham hbm (by omega) HLT.out HC.out) ?_
             · exact OwnN.drew' rfl OWN2.out
             rintro e w3 ⟨rfl, own3, gr3⟩
             obtain ⟨_, _, h2, _⟩ := box3 ((Z0.out.drew).grown gr3 (by intro h; injection h; omega))
             have OWN3 := hide own3
             have GR3 := hide gr3
             clear own3 gr3))
      clear hwr hwr0 f0 f1 f2 f3 h2
      have V0 := hide ((Z0.out.drew).grown GR3.out (by intro h; injection h; omega))
      have V1 := hide ((Z1.out.drew).grown GR3.out (by intro h; injection h; omega))
      have V2 := hide ((Z2.out.drew).grown GR3.out (by intro h; injection h; omega))
      have V3 := hide ((Z3.out.drew).grown GR3.out (by intro h; injection h; omega))
      have B3 := hide ((B2.out.drew).grown GR3.out (B2.out.drew).size (fun k hk => by injection hk with hk; omega))
      have hs3 : w.heap.size + 4 ≤ w3.heap.size := by have := GR3.out.size; have : w2.drew.heap.size = w2.heap.size := rfl; omega
      have l1 : w.heap.size < w3.heap.size := by omega
      have l2 : w.heap.size + 1 < w3.heap.size := by omega
      have l3 : w.heap.size + 1 + 1 < w3.heap.size := by omega
      have l4 : w.heap.size + 1 + 1 + 1 < w3.heap.size := by omega
      obtain ⟨f0, f1, f2, f3⟩ := box3 V0.out
      obtain ⟨m0, m1, m2, m3, m4, m5⟩ := box5 V1.out
      obtain ⟨p0, p1, p2, p3⟩ := box3 V2.out
      obtain ⟨q0, q1, q2, q3, q4, q5⟩ := box5 V3.out
      have hfu : (d.lp : Int) ≤ 64 := by omega
      have HG3 := hide (HG.out.keep B3.out)
      obtain ⟨ab, ao, rfl, hcs⟩ := sign_at HG3.out.s hc
      obtain ⟨mb, mo, rfl, hcm⟩ := mate_at HG3.out.m (k := a) (by have := HM.out; omega)
      have lmb : mb < w3.heap.size := lt_of_cell hcm
      have ia : (0 : Int) ≤ (a : Int) := by omega
      have ib : (a : Int) < (m : Int) := by omega
      have hma : d.m a ≤ 256 := by have := hd.lt a ha1; omega
      obtain ⟨u, hu⟩ : ∃ u, u = d.m a := ⟨_, rfl⟩
      rw [← hu] at hcm hma
      have HUU := hide hu
      clear hu
      go_wp2_with fail
      obtain ⟨bb, hbb⟩ : ∃ bb, bb = ((a : Int) % 2 == 1) := ⟨_, rfl⟩
      have HBB := hide hbb
      rw [← hbb]
      clear hbb
      refine (shifted_any [c] (some ⟨w3.heap.size + 1, 0, none⟩) 1 1 u _ ?_ (by omega) (by omega) (Pl.few_one c)).mono ?_
      · exact one_ints' (w3.alloc (.cells #[.int .i64 1, .int .i64 (-1), .int .i64 0, .int .i64 (d.s c), .bool bb] 36)) c (by simp)
      rintro e w4 ⟨rfl, rfl⟩
      go_wp2_with fail
      obtain ⟨W5, hW5⟩ : ∃ W5 : World, W5 = (w3.alloc (.cells #[.int .i64 1, .int .i64 (Pl.shf [c] u : Nat), .int .i64 0, .int .i64 (d.s c), .bool bb] 36)).alloc (.cells #[.int .i64 (c : Int)] 3) := ⟨_, rfl⟩
      rw [← hW5]
      obtain ⟨gi, hgi⟩ : ∃ gi, gi = w3.heap.size := ⟨_, rfl⟩
      rw [← hgi]
      have HU := hide (show UC w gi (.slice (some ⟨ab, ao, none⟩) d.n cp) (.slice (some ⟨mb, mo, none⟩) m cq) (.int .i64 (d.lp : Int)) (.int .i64 1) (.int .i64 (Pl.shf [c] u : Nat)) (.int .i64 0) (.int .i64 (d.s c)) (.bool bb) W5 by
        rw [hW5]
        exact ⟨(V0.out.alloc _).alloc _, Row.alloc (row_at (vs := [.int .i64 1, .int .i64 (Pl.shf [c] u : Nat), .int .i64 0, .int .i64 (d.s c), .bool bb]) hgi) _, ⟨_, (V2.out.alloc _).alloc _, rfl⟩, ⟨_, (V3.out.alloc _).alloc _, rfl⟩, (B3.out.alloc (by omega) _).alloc (by simp; omega) _, by omega⟩)
      obtain ⟨LL, hLL⟩ : ∃ LL, LL = jn d.mt (d.mt.getD a 0) (d.mt.getD b 0) := ⟨_, rfl⟩
      have HMo := hide (show OwnN W5 w1.heap.size g2 m c2 LL by rw [hW5, hLL]; exact (OWN3.out.alloc _).alloc _)
      have HLE := hide (show ∀ k, LL.getD k 0 ≤ 1000 from fun k => by rw [hLL]; exact Nat.le_trans (jn_le (getD_le hd) (getD_le hd a) (getD_le hd b) k) (by omega))
      have HG5 := hide (show DgAt W5 (some ⟨ab, ao, none⟩) (some ⟨mb, mo, none⟩) d from HG.out.keep HU.out.bel)
      have HLL := hide (show LL = unM d c by unfold unM; rw [← HA.out, ← HB.out, if_neg HCL.out, hLL, HGA.out, HGB.out])
      have HE0 := hide (show uncC d c = 0 by unfold uncC; rw [if_pos HK.out, ← HA.out, ← HB.out, if_neg HCL.out])
      clear hW5 hgi hLL f0 f1 f2 f3 m0 m1 m2 m3 m4 m5 p0 p1 p2 p3 q0 q1 q2 q3 q4 q5 hcs hcm l1 l2 l3 l4
      have HCAP := hide HMo.out.caps
      have KS := hide (IntsAt.drew ((HG5.out.s).alloc (.cells #[.int .i64 (c : Int)] 3)))
      have KM := hide (OwnN.ints (OwnN.drew' rfl (HMo.out.alloc (.cells #[.int .i64 (c : Int)] 3))))
      have KG := hide (one_ints W5 c)
      go_region_held3 (fun w' => w'.cell? ⟨w.heap.size, 0, none⟩ = some (.slice (some ⟨ab, ao, none⟩) d.n cp) ∧ w'.cell? ⟨gi, 0, none⟩ = some (.int .i64 1) ∧ w'.cell? ⟨gi, 1, none⟩ = some (.int .i64 (Pl.shf [c] u : Nat)) ∧ w'.cell? ⟨gi, 2, none⟩ = some (.int .i64 0) ∧ w'.cell? ⟨gi, 3, none⟩ = some (.int .i64 (d.s c)) ∧ w'.cell? ⟨gi, 4, none⟩ = some (.bool bb) ∧
          w'.cell? ⟨w.heap.size + 1 + 1, 0, none⟩ = some (cv w' ⟨w.heap.size + 1 + 1, 0, none⟩) ∧ w'.cell? ⟨w.heap.size + 1 + 1, 1, none⟩ = some (cv w' ⟨w.heap.size + 1 + 1, 1, none⟩) ∧ w'.cell? ⟨w.heap.size + 1 + 1, 2, none⟩ = some (cv w' ⟨w.heap.size + 1 + 1, 2, none⟩) ∧
          w'.cell? ⟨w.heap.size + 1 + 1 + 1, 0, none⟩ = some (cv w' ⟨w.heap.size + 1 + 1 + 1, 0, none⟩) ∧ w'.cell? ⟨w.heap.size + 1 + 1 + 1, 1, none⟩ = some (cv w' ⟨w.heap.size + 1 + 1 + 1, 1, none⟩) ∧ w'.cell? ⟨w.heap.size + 1 + 1 + 1, 2, none⟩ = some (cv w' ⟨w.heap.size + 1 + 1 + 1, 2, none⟩) ∧ w'.cell? ⟨w.heap.size + 1 + 1 + 1, 3, none⟩ = some (cv w' ⟨w.heap.size + 1 + 1 + 1, 3, none⟩) ∧ w'.cell? ⟨w.heap.size + 1 + 1 + 1, 4, none⟩ = some (cv w' ⟨w.heap.size + 1 + 1 + 1, 4, none⟩) ∧
          (∀ o, w'.frozen? ⟨w.heap.size + 1 + 1, o, none⟩ = false) ∧ (∀ o, w'.frozen? ⟨w.heap.size + 1 + 1 + 1, o, none⟩ = false) ∧ UC w gi (.slice (some ⟨ab, ao, none⟩) d.n cp) (.slice (some ⟨mb, mo, none⟩) m cq) (.int .i64 (d.lp : Int)) (.int .i64 1) (.int .i64 (Pl.shf [c] u : Nat)) (.int .i64 0) (.int .i64 (d.s c)) (.bool bb) w')
        ((go_split_ands; refine UC.all ?_; (repeat (first | (with_reducible assumption) | (with_reducible exact HU.out) | (with_reducible refine UC.setD ?_ _ _) | (with_reducible refine UC.setM ?_ _ _) | (with_reducible refine UC.alloc ?_ _) | (with_reducible refine UC.drew ?_) | (with_reducible refine UC.below ?_ hb6)))))
        (first
          | (go_at_call 87
             refine Calls.mono (shrunk_sl [c] d.sg LL (d.lp : Int) (some ⟨ab, ao, none⟩) (some ⟨g2, 0, none⟩) (some ⟨W5.heap.size, 0, none⟩) d.n m 1 cp c2 1 _ ?_ ?_ ?_ (Pl.few_one c) HM.out HCAP.out.1 HCAP.out.2 (by omega) (by omega) HLE.out) ?_
             · exact KS.out
             · exact KM.out
             · exact KG.out
             rintro e w6 ⟨A7, A8, c7, c8, rfl, owS, owM, hb6⟩
             have OWS := hide owS
             have OWM := hide owM
             clear owS owM))
      all_goals
        have HU6 := hide (show UC w gi (.slice (some ⟨ab, ao, none⟩) d.n cp) (.slice (some ⟨mb, mo, none⟩) m cq) (.int .i64 (d.lp : Int)) (.int .i64 1) (.int .i64 (Pl.shf [c] u : Nat)) (.int .i64 0) (.int .i64 (d.s c)) (.bool bb) w6 from by
          repeat (first | (with_reducible assumption) | (with_reducible exact HU.out) | (with_reducible refine UC.alloc ?_ _) | (with_reducible refine UC.drew ?_) | (with_reducible refine UC.below ?_ hb6)))
        have hb6s : W5.heap.size + 1 + 2 ≤ w6.heap.size ∨ True := .inr trivial
        go_wp2
        obtain ⟨vs6, r6, l6⟩ := HU6.out.rd
        obtain ⟨us6, t6, k6⟩ := HU6.out.rm
        refine bodyPost_ret (v := .tuple #[.agg #[.slice A7 (Pl.left d.sg.length [c]).length c7, .slice A8 (4 * (Pl.left d.sg.length [c]).length) c8, .int .i64 (d.lp : Int)], .agg #[.int .i64 1, .int .i64 (Pl.shf [c] u : Nat), .int .i64 0, .int .i64 (d.s c), .bool bb], .int .i64 0]) ?_ rfl ?_
        · obtain ⟨e0, e1, e2, e3, e4, e5, e6, e7⟩ := fin8 r6 t6 l6 k6 (by omega) (.slice A7 (Pl.left d.sg.length [c]).length c7) (.slice A8 (4 * (Pl.left d.sg.length [c]).length) c8) (.int .i64 (d.lp : Int)) (.int .i64 1) (.int .i64 (Pl.shf [c] u : Nat)) (.int .i64 0) (.int .i64 (d.s c)) (.bool bb)
          simp [results, Tryz.results47, go_sem, e0, e1, e2, e3, e4, e5, e6, e7]
        · have hn7 : (unD d c).n = (Pl.left d.sg.length [c]).length := by unfold unD Pl.Dg.n; exact Pl.shrS_len _ _
          refine ⟨fun h => absurd HE0.out h, fun _ => ⟨A7, A8, c7, c8, ?_, ?_, ?_⟩, below8 HU6.out.bel _ _ _ _ _ _ _ _⟩
          · rw [hn7]
            unfold unD unI Mv.v
            simp only [← HA.out, ← HB.out, if_neg HCL.out]
            simp only [← HUU.out]
            have e2 : decide (a % 2 = 1) = bb := by rw [HBB.out, Bool.eq_iff_iff]; simp; omega
            rw [e2]
          · rw [hn7]
            refine own_intsT (base := (W5.alloc (.cells #[.int .i64 (c : Int)] 3)).drew.heap.size + 2) (e := 3) (c := c7) (own8 ?_ ?_ _ _ _ _ _ _ _ _)
            · exact OWS.out
            · have := HU.out.i.lt; have := HU.out.lo; simp; omega
          · rw [hn7]
            refine own_intsT (base := (W5.alloc (.cells #[.int .i64 (c : Int)] 3)).drew.heap.size + 2) (e := 3) (c := c8) (own8 ?_ ?_ _ _ _ _ _ _ _ _)
            · rw [map_nats]
              have := OWM.out
              rw [HLL.out] at this
              exact this
            · have := HU.out.i.lt; have := HU.out.lo; simp; omega
  · rw [Pl.vb_false (show ¬ isK d c from hK)]
    unfold kinkE
    rw [if_neg (by decide)]
    have HK := hide hK
    clear hK
    go_wp2
    refine bodyPost_ret (v := .tuple #[nilD, nilM, .int .i64 6]) ?_ rfl ?_
    · obtain ⟨e0, e1, e2, e3, e4, e5, e6, e7⟩ := fin8 Y2.out Y3.out rfl rfl (by omega) (.slice none 0 0) (.slice none 0 0) (.int .i64 0) (.int .i64 0) (.int .i64 0) (.int .i64 0) (.int .i64 0) (.bool false)
      unfold nilD nilM
      simp [results, Tryz.results47, go_sem, e0, e1, e2, e3, e4, e5, e6, e7]
    · have e6 : uncC d c = 6 := by unfold uncC; rw [if_neg HK.out]
      refine ⟨fun _ => by rw [e6]; exact rfl, fun h => absurd h (by rw [e6]; decide), below8 B1.out _ _ _ _ _ _ _ _⟩
end Go.Proofs.YtlffopdoeobgaaaGreatDoor
end

section
namespace Go.Proofs.YtlffopdoeobgaaaGreatDoor
open Go Go.RowKit
attribute [local go_sem ↓] Go.wp_at_zero Go.wp_at_succ
def lnS (d : Pl.Dg) (y : Int) : Nat := if fwd d y then 0 else 2
def th0 (d : Pl.Dg) (x : Int) : Nat := if fwd d x then 3 else 1
def th1 (d : Pl.Dg) (x : Int) : Nat := if fwd d x then 1 else 3
def un0 (d : Pl.Dg) (x y : Int) (ov : Bool) : Nat := if ov then lnS d y else th0 d x
def un1 (d : Pl.Dg) (x y : Int) (ov : Bool) : Nat := if ov then lnS d y else th1 d x
def ov0 (d : Pl.Dg) (x y : Int) (ov : Bool) : Nat := if ov then th0 d x else lnS d y
def ov1 (d : Pl.Dg) (x y : Int) (ov : Bool) : Nat := if ov then th1 d x else lnS d y
def sgn2 (u o : Nat) : Int := if plc 0 u o = 3 then 1 else -1
section
variable {w : World} {x0 x1 x2 y0 y1 y2 y3 y4 : Value} {W W' : World}
end
section
variable {w : World} {x0 x1 x2 y0 y1 y2 y3 y4 : Value} {gu gs : Nat} {p0 p1 q0 q1 : Value} {W W' : World}
end
theorem own_base {w : World} {base base' : Nat} {e : TypeId} {v : Value} {n : Nat} {xs : List Value} (h : w.ownsRow base e 1 v n xs) (hle : base' ≤ base) : w.ownsRow base' e 1 v n xs := own_keep h (Below.refl _ _) hle
end Go.Proofs.YtlffopdoeobgaaaGreatDoor
end

section
namespace Go.Proofs.YtlffopdoeobgaaaGreatDoor
open Go Go.RowKit
def lpv (d : Pl.Dg) (h : Nat) : Int := if Pl.out d h then -2 else -1
def oldv (d : Pl.Dg) (x y h : Nat) : Int := (Pl.shf [x, y] (d.m h) : Nat)
end Go.Proofs.YtlffopdoeobgaaaGreatDoor
end

section
namespace Go.Proofs.YtlffopdoeobgaaaGreatDoor
open Go Go.RowKit
attribute [local go_sem ↓] Go.wp_at_zero Go.wp_at_succ
structure Ln where
  p0 : Nat
  p1 : Nat
  p2 : Nat
  p3 : Nat
  q0 : Nat
  q1 : Nat
  q2 : Nat
  q3 : Nat
def lensOf (d : Pl.Dg) (h : Nat) : Ln := ⟨h, d.m (Pl.nx d h), Pl.tn h 2, Pl.tn (d.m (Pl.nx d h)) 2, Pl.tn (d.m h) 2, Pl.nx d h, d.m h, Pl.tn (Pl.nx d h) 2⟩
def pusX (d : Pl.Dg) (l : Ln) (x y : Nat) : Int :=
  if d.m l.q3 = l.q0 then (if d.m l.p2 = l.p3 then lpv d l.p3 else oldv d x y l.p3)
  else if d.m l.p2 = l.p3 then oldv d x y l.q0 else if d.m l.p3 = l.q3 then lpv d l.p3 else oldv d x y l.p3
def pusY (d : Pl.Dg) (l : Ln) (x y : Nat) : Int :=
  if d.m l.q3 = l.q0 then (if d.m l.p2 = l.p3 then lpv d l.p3 else oldv d x y l.p3)
  else if d.m l.p2 = l.p3 then oldv d x y l.q0 else if d.m l.q0 = l.p2 then lpv d l.q0 else oldv d x y l.q0
def pusS (d : Pl.Dg) (l : Ln) : Int := if d.m l.q3 = l.q0 then 1 else if d.m l.p2 = l.p3 then -1 else 0
def pusI (d : Pl.Dg) (l : Ln) (x y : Nat) : Mv := ⟨3, pusX d l x y, pusY d l x y, pusS d l, decide (l.q1 % 2 = 1)⟩
section
variable {w W W' : World} {gi : Nat} {dv lv mv iv : List Value}
end
section
variable {w W W' : World} {gi : Nat} {dv lv mv : List Value} {a s e : Value}
end
end Go.Proofs.YtlffopdoeobgaaaGreatDoor
end

section
namespace Go.Proofs.YtlffopdoeobgaaaGreatDoor
open Go Go.RowKit
attribute [local go_sem ↓] Go.wp_at_zero Go.wp_at_succ
section
variable {w W W' : World} {gl : Nat} {dv mv lv : List Value}
end
def unpA (d : Pl.Dg) (l : Ln) : List Nat := if d.mt.getD l.p2 0 = l.q0 then d.mt else jn d.mt (d.mt.getD l.p2 0) (d.mt.getD l.q0 0)
def unpB (d : Pl.Dg) (l : Ln) : List Nat := if (unpA d l).getD l.p3 0 = l.q3 then unpA d l else jn (unpA d l) ((unpA d l).getD l.p3 0) ((unpA d l).getD l.q3 0)
def unpL (d : Pl.Dg) (l : Ln) : Nat := d.lp + (if d.mt.getD l.p2 0 = l.q0 then 1 else 0) + (if (unpA d l).getD l.p3 0 = l.q3 then 1 else 0)
def unpC (d : Pl.Dg) (x y : Nat) : Int := match lensI d x y with
  | none => 6
  | some i => if 64 < unpL d (lensOf d (lnH x y i)) then 5 else 0
def unpDl (d : Pl.Dg) (l : Ln) (x y : Nat) : Pl.Dg := ⟨Pl.shrS [x, y] d.sg, Pl.shrM [x, y] d.n (unpB d l), unpL d l⟩
theorem jn_len (l : List Nat) (a b : Nat) : (jn l a b).length = l.length := by unfold jn; simp
end Go.Proofs.YtlffopdoeobgaaaGreatDoor
end

section
namespace Go.Proofs.YtlffopdoeobgaaaGreatDoor
open Go Go.RowKit
def leadM (d : Pl.Dg) (mt : List Nat) (x : Int) (i o : Nat) : List Nat := if x < 0 then jn mt i o else jn (jn mt x.toNat i) o (d.m x.toNat)
section
variable {w : World} {gd gn gr gf g1 c1 n1 g2 c2 n2 base n u0 u1 : Nat} {s5 m5 dv ss : List Value} {lpr : Int} {mt : List Nat} {W W2 : World}
end
end Go.Proofs.YtlffopdoeobgaaaGreatDoor
end

section
namespace Go.Proofs.YtlffopdoeobgaaaGreatDoor
open Go Go.RowKit
def needP (x y sg : Int) : Nat := (if x < 0 then 1 else 0) + (if y < 0 ∧ sg = 0 then 1 else 0)
end Go.Proofs.YtlffopdoeobgaaaGreatDoor
end

section
namespace Go.Proofs.YtlffopdoeobgaaaGreatDoor
open Go Go.RowKit
attribute [local go_sem ↓] Go.wp_at_zero Go.wp_at_succ
section
variable {w W W' : World} {s5 m5 : List Value}
end
section
variable {w : World} {gd gn gr gf g1 c1 n1 g2 c2 n2 base n u0 u1 : Nat} {s5 m5 dv ss : List Value} {lpr : Int} {mt : List Nat} {W W2 : World}
end
def pP (d : Pl.Dg) (x y : Int) (ov : Bool) (t : Nat) : Nat := plc d.n (un0 d x y ov) t
def pQ (d : Pl.Dg) (x y : Int) (ov : Bool) (t : Nat) : Nat := plc (d.n + 1) (un1 d x y ov) t
def pk0 (d : Pl.Dg) (x y : Int) (ov : Bool) : List Nat := jn (jn (d.mt ++ List.replicate 8 0) (pP d x y ov 1) (pQ d x y ov 1)) (pQ d x y ov 2) (pP d x y ov 0)
def pkM (d : Pl.Dg) (x y sg : Int) (ov : Bool) : List Nat :=
  if sg ≠ 0 ∧ x < 0 then jn (jn (pk0 d x y ov) (pQ d x y ov 3) (pQ d x y ov 0)) (pP d x y ov 2) (pP d x y ov 3)
  else if sg = 1 then jn (jn (jn (pk0 d x y ov) x.toNat (pP d x y ov 3)) (pQ d x y ov 3) (pQ d x y ov 0)) (pP d x y ov 2) (d.m x.toNat)
  else if sg = -1 then jn (jn (jn (pk0 d x y ov) x.toNat (pQ d x y ov 0)) (pP d x y ov 2) (pP d x y ov 3)) (pQ d x y ov 3) (d.m x.toNat)
  else leadM d (leadM d (pk0 d x y ov) y (pQ d x y ov 0) (pP d x y ov 2)) x (pP d x y ov 3) (pQ d x y ov 3)
def pkL (d : Pl.Dg) (x y sg : Int) : Int := if sg ≠ 0 ∧ x < 0 then (d.lp : Int) - 1 else if sg = 0 then (if x < 0 then (if y < 0 then (d.lp : Int) - 1 else d.lp) - 1 else (if y < 0 then (d.lp : Int) - 1 else d.lp)) else d.lp
def pkD (d : Pl.Dg) (x y sg : Int) (ov : Bool) : Pl.Dg := ⟨d.sg ++ [sgn2 (un0 d x y ov) (ov0 d x y ov), sgn2 (un1 d x y ov) (ov1 d x y ov)], pkM d x y sg ov, (pkL d x y sg).toNat⟩
end Go.Proofs.YtlffopdoeobgaaaGreatDoor
end
