/-
 The texts Xd, Rj, Wy, Wq, Wz, Wv in one.
-/
import Derived.Test.YtobbepmlmbbamaaB04
import Derived.Test.YtobbepmlmbbamaaB02
import Derived.Deep.DeepCutAuto
import Derived.Deep.CutBlock
import Derived.StillTailTactics
set_option linter.unusedVariables false
set_option linter.unusedSimpArgs false
section
namespace Go.Proofs.Ytobbepmlmbbamaa
open Go Go.RowKit
attribute [local go_sem ↓] Go.wp_at_zero Go.wp_at_succ
structure UP (w : World) (gl : Nat) (dv mv lv : List Value) (W : World) : Prop where
 d : Row W w.heap.size 24 dv
 m : Row W (w.heap.size + 1) 28 mv
 rd : ∃ vs, Row W (w.heap.size + 1 + 1) 24 vs ∧ vs.length = 3
 rm : ∃ us, Row W (w.heap.size + 1 + 1 + 1) 28 us ∧ us.length = 5
 l : Row W gl 93 lv
 bel : Below w.heap.size w W
 lo : w.heap.size + 1 + 1 + 1 < gl
section
variable {w W W' : World} {gl : Nat} {dv mv lv : List Value}
theorem UP.drew (h : UP w gl dv mv lv W) : UP w gl dv mv lv W.drew := ⟨h.d, h.m, h.rd, h.rm, h.l, h.bel.drew, h.lo⟩
theorem UP.below (h : UP w gl dv mv lv W) (hb : Below W.heap.size W W') : UP w gl dv mv lv W' :=
 let ⟨vs, r1, l1⟩ := h.rd
 let ⟨us, r2, l2⟩ := h.rm
 ⟨h.d.below hb, h.m.below hb, ⟨vs, r1.below hb, l1⟩, ⟨us, r2.below hb, l2⟩, h.l.below hb, h.bel.trans (hb.mono h.bel.size), h.lo⟩
theorem UP.alloc (h : UP w gl dv mv lv W) (o : Obj) : UP w gl dv mv lv (W.alloc o) := h.below ((Below.refl _ _).alloc (Nat.le_refl _) o)
theorem UP.grown (h : UP w gl dv mv lv W) {r : Option Nat} (hg : W.grownBy W' r) (hr : ∀ k, r = some k → gl < k) : UP w gl dv mv lv W' :=
 have a:=h.lo
 have key : ∀ {g : Nat}, g ≤ gl → some g ≠ r:=fun {g} hg' e => by have := hr g e.symm; omega
 let ⟨vs, r1, l1⟩ := h.rd
 let ⟨us, r2, l2⟩ := h.rm
 ⟨h.d.grown hg (key (by omega)), h.m.grown hg (key (by omega)), ⟨vs, r1.grown hg (key (by omega)), l1⟩, ⟨us, r2.grown hg (key (by omega)), l2⟩, h.l.grown hg (key (by omega)), h.bel.grown hg h.bel.size (fun k hk => by have := hr k hk; omega), h.lo⟩
theorem UP.setD (h : UP w gl dv mv lv W) (o : Nat) (v : Value) : UP w gl dv mv lv (W.setCell ⟨w.heap.size + 1 + 1, o, none⟩ v) :=
 let ⟨vs, r1, l1⟩ := h.rd
 let ⟨us, r2, l2⟩ := h.rm
 have hl:=h.lo
 ⟨h.d.other (by show _ ≠ w.heap.size + 1 + 1; omega) v, h.m.other (by show _ ≠ w.heap.size + 1 + 1; omega) v, ⟨vs.set o v, r1.set o v, by rw [List.length_set, l1]⟩, ⟨us, r2.other (by show _ ≠ w.heap.size + 1 + 1; omega) v, l2⟩, h.l.other (by show _ ≠ w.heap.size + 1 + 1; omega) v, h.bel.setCell (by show _ ≤ w.heap.size + 1 + 1; omega) v, h.lo⟩
theorem UP.setM (h : UP w gl dv mv lv W) (o : Nat) (v : Value) : UP w gl dv mv lv (W.setCell ⟨w.heap.size + 1 + 1 + 1, o, none⟩ v) :=
 let ⟨vs, r1, l1⟩ := h.rd
 let ⟨us, r2, l2⟩ := h.rm
 have hl:=h.lo
 ⟨h.d.other (by show _ ≠ w.heap.size + 1 + 1 + 1; omega) v, h.m.other (by show _ ≠ w.heap.size + 1 + 1 + 1; omega) v, ⟨vs, r1.other (by show _ ≠ w.heap.size + 1 + 1 + 1; omega) v, l1⟩, ⟨us.set o v, r2.set o v, by rw [List.length_set, l2]⟩, h.l.other (by show _ ≠ w.heap.size + 1 + 1 + 1; omega) v, h.bel.setCell (by show _ ≤ w.heap.size + 1 + 1 + 1; omega) v, h.lo⟩
theorem UP.all {x0 x1 x2 y0 y1 y2 y3 y4 l0 l1 l2 l3 l4 l5 l6 l7 : Value} (h : UP w gl [x0, x1, x2] [y0, y1, y2, y3, y4] [l0, l1, l2, l3, l4, l5, l6, l7] W) :
 W.cell? ⟨w.heap.size, 0, none⟩ = some x0 ∧ W.cell? ⟨w.heap.size, 1, none⟩ = some x1 ∧ W.cell? ⟨w.heap.size, 2, none⟩ = some x2 ∧
 W.cell? ⟨w.heap.size + 1, 0, none⟩ = some y0 ∧ W.cell? ⟨w.heap.size + 1, 1, none⟩ = some y1 ∧ W.cell? ⟨w.heap.size + 1, 2, none⟩ = some y2 ∧ W.cell? ⟨w.heap.size + 1, 3, none⟩ = some y3 ∧ W.cell? ⟨w.heap.size + 1, 4, none⟩ = some y4 ∧
 W.cell? ⟨gl, 0, none⟩ = some l0 ∧ W.cell? ⟨gl, 1, none⟩ = some l1 ∧ W.cell? ⟨gl, 2, none⟩ = some l2 ∧ W.cell? ⟨gl, 3, none⟩ = some l3 ∧ W.cell? ⟨gl, 4, none⟩ = some l4 ∧ W.cell? ⟨gl, 5, none⟩ = some l5 ∧ W.cell? ⟨gl, 6, none⟩ = some l6 ∧ W.cell? ⟨gl, 7, none⟩ = some l7 ∧
 W.cell? ⟨w.heap.size + 1 + 1, 0, none⟩ = some (cv W ⟨w.heap.size + 1 + 1, 0, none⟩) ∧ W.cell? ⟨w.heap.size + 1 + 1, 1, none⟩ = some (cv W ⟨w.heap.size + 1 + 1, 1, none⟩) ∧ W.cell? ⟨w.heap.size + 1 + 1, 2, none⟩ = some (cv W ⟨w.heap.size + 1 + 1, 2, none⟩) ∧
 W.cell? ⟨w.heap.size + 1 + 1 + 1, 0, none⟩ = some (cv W ⟨w.heap.size + 1 + 1 + 1, 0, none⟩) ∧ W.cell? ⟨w.heap.size + 1 + 1 + 1, 1, none⟩ = some (cv W ⟨w.heap.size + 1 + 1 + 1, 1, none⟩) ∧ W.cell? ⟨w.heap.size + 1 + 1 + 1, 2, none⟩ = some (cv W ⟨w.heap.size + 1 + 1 + 1, 2, none⟩) ∧ W.cell? ⟨w.heap.size + 1 + 1 + 1, 3, none⟩ = some (cv W ⟨w.heap.size + 1 + 1 + 1, 3, none⟩) ∧ W.cell? ⟨w.heap.size + 1 + 1 + 1, 4, none⟩ = some (cv W ⟨w.heap.size + 1 + 1 + 1, 4, none⟩) ∧
 (∀ o, W.frozen? ⟨w.heap.size + 1 + 1, o, none⟩ = false) ∧ (∀ o, W.frozen? ⟨w.heap.size + 1 + 1 + 1, o, none⟩ = false) ∧ UP w gl [x0, x1, x2] [y0, y1, y2, y3, y4] [l0, l1, l2, l3, l4, l5, l6, l7] W := by
 obtain ⟨vs, r1, k1⟩ := h.rd
 obtain ⟨us, r2, k2⟩ := h.rm
 obtain ⟨d0, d1, d2, _⟩ := box3 h.d
 obtain ⟨m0, m1, m2, m3, m4, _⟩ := box5 h.m
 obtain ⟨e0, e1, e2, e3, e4, e5, e6, e7, _⟩ := box8 h.l
 exact ⟨d0, d1, d2, m0, m1, m2, m3, m4, e0, e1, e2, e3, e4, e5, e6, e7, cv_some (r1.cell (i := 0) (by omega)), cv_some (r1.cell (i := 1) (by omega)), cv_some (r1.cell (i := 2) (by omega)), cv_some (r2.cell (i := 0) (by omega)), cv_some (r2.cell (i := 1) (by omega)), cv_some (r2.cell (i := 2) (by omega)), cv_some (r2.cell (i := 3) (by omega)), cv_some (r2.cell (i := 4) (by omega)), r1.free, r2.free, h⟩
end
def unpA (d : Pl.Dg) (l : Ln) : List Nat := if d.mt.getD l.p2 0 = l.q0 then d.mt else jn d.mt (d.mt.getD l.p2 0) (d.mt.getD l.q0 0)
def unpB (d : Pl.Dg) (l : Ln) : List Nat := if (unpA d l).getD l.p3 0 = l.q3 then unpA d l else jn (unpA d l) ((unpA d l).getD l.p3 0) ((unpA d l).getD l.q3 0)
def unpL (d : Pl.Dg) (l : Ln) : Nat := d.lp + (if d.mt.getD l.p2 0 = l.q0 then 1 else 0) + (if (unpA d l).getD l.p3 0 = l.q3 then 1 else 0)
def unpC (d : Pl.Dg) (x y : Nat) : Int := match lensI d x y with
 | none => 6
 | some i => if 64 < unpL d (lensOf d (lnH x y i)) then 5 else 0
def unpDl (d : Pl.Dg) (l : Ln) (x y : Nat) : Pl.Dg := ⟨Pl.shrS [x, y] d.sg, Pl.shrM [x, y] d.n (unpB d l), unpL d l⟩
def UnpPost (d : Pl.Dg) (x y : Nat) (w : World) (e : Ending) (w' : World) : Prop :=
 (unpC d x y ≠ 0 → ResErr (unpC d x y) e) ∧ (unpC d x y = 0 → ∃ i, lensI d x y = some i ∧ ResOk (unpDl d (lensOf d (lnH x y i)) x y) (pusI d (lensOf d (lnH x y i)) x y) e w') ∧ Below w.heap.size w w'
theorem lens_lt {d : Pl.Dg} {x y i : Nat} (h : lensI d x y = some i) : i < 8 := by
 unfold lensI at h
 have:=List.mem_of_find?_eq_some h
 simpa using this
theorem lens_is {d : Pl.Dg} {x y i : Nat} (h : lensI d x y = some i) : isL d x y i := by
 unfold lensI at h
 have:=List.find?_some h
 simpa using this
theorem jn_lt {l : List Nat} {n a b : Nat} (hl : l.length = n) (h : ∀ k, k < n → l.getD k 0 < n) (ha : a < n) (hb : b < n) : ∀ k, k < n → (jn l a b).getD k 0 < n := by
 intro k hk
 have key : ∀ (l : List Nat) (a b : Nat), (∀ k, k < n → l.getD k 0 < n) → b < n → ∀ k, k < n → (l.set a b).getD k 0 < n:=by
  intro l a b h hb k hk
  rw [List.getD_eq_getElem?_getD, List.getElem?_set]
  have:=h k hk
  rw [List.getD_eq_getElem?_getD] at this
  split
  ·split
   ·simpa using hb
   ·simp; omega
  ·exact this
 exact key _ _ _ (key _ _ _ h hb) ha k hk
theorem jn_len (l : List Nat) (a b : Nat) : (jn l a b).length = l.length := by unfold jn; simp
theorem pushed_v (d : Pl.Dg) (hd : Pl.Wf d) (A B : Option Addr) (cp cq m x y : Nat) (k sg : Int) (ov : Bool) (p0 p1 p2 p3 q0 q1 q2 q3 : Nat) (w : World) (hm : m = 4 * d.n) (hg : DgAt w A B d) (hxy : x < y)
 (h2 : p2 < m) (h3 : p3 < m) (k0 : q0 < m) (k3 : q3 < m) (k1 : q1 < m) :
 Calls Try.prog 93 #[.agg #[.slice A d.n cp, .slice B m cq, .int .i64 d.lp], .agg #[.int .i64 (p0 : Int), .int .i64 (p1 : Int), .int .i64 (p2 : Int), .int .i64 (p3 : Int), .int .i64 (q0 : Int), .int .i64 (q1 : Int), .int .i64 (q2 : Int), .int .i64 (q3 : Int)], .agg #[.int .i64 k, .int .i64 (x : Int), .int .i64 (y : Int), .int .i64 sg, .bool ov]] w
  fun e w' => ∃ (X Y S : Int) (b : Bool), e = .returned (.agg #[.int .i64 3, .int .i64 X, .int .i64 Y, .int .i64 S, .bool b]) ∧ pusI d ⟨p0, p1, p2, p3, q0, q1, q2, q3⟩ x y = ⟨3, X, Y, S, b⟩ ∧ Below w.heap.size w w' := by
 subst hm
 refine (pushed_any d hd A B cp cq (4 * d.n) x y k sg ov ⟨p0, p1, p2, p3, q0, q1, q2, q3⟩ w rfl hg hxy h2 h3 k0 k3 k1).mono ?_
 rintro e w' ⟨rfl, hb⟩
 exact ⟨_, _, _, _, rfl, rfl, hb⟩
set_option maxRecDepth 100000 in
set_option maxHeartbeats 4000000 in
theorem unpoke_any (d : Pl.Dg) (hd : Pl.Wf d) (A B : Option Addr) (cp cq x y : Nat) (k sg : Int) (ov : Bool) (w : World) (hg : DgAt w A B d) (hxy : x < y) (hy : y < d.n) :
 Calls Try.prog 51 #[.agg #[.slice A d.n cp, .slice B (4 * d.n) cq, .int .i64 d.lp], .agg #[.int .i64 k, .int .i64 (x : Int), .int .i64 (y : Int), .int .i64 sg, .bool ov]] w (UnpPost d x y w) := by
 have hn:=hd.few
 have hlp:=hd.lp
 obtain ⟨m, hm⟩ : ∃ m, m = 4 * d.n := ⟨_, rfl⟩
 have HG:=hide hg
 clear hg
 rw [← hm]
 have hm2 : m ≤ 256:=by omega
 have HM:=hide hm
 clear hm
 obtain ⟨x0, x1, x2, x3, b0, s0⟩ := boxes4 w (.slice A d.n cp) (.slice B m cq) (.int .i64 d.lp) (.int .i64 k) (.int .i64 (x : Int)) (.int .i64 (y : Int)) (.int .i64 sg) (.bool ov)
 unfold W4 at x0 x1 x2 x3 b0 s0
 have X0:=hide x0
 have X1:=hide x1
 have X2:=hide x2
 have X3:=hide x3
 have B0:=hide b0
 have S0:=hide s0
 clear x0 x1 x2 x3 b0 s0
 go_enter Try.func51, Try.ntmps51
 go_wp2_with fail
 refine (find_any d hd A B cp cq m x y _ HM.out (HG.out.keep B0.out) (by omega) hy).mono ?_
 rintro e w1 ⟨rfl, hb1⟩
 have hsz : w.heap.size + 4 ≤ w1.heap.size:=by have := hb1.size; have := S0.out; omega
 have Y0:=hide (X0.out.below hb1)
 have Y1:=hide (X1.out.below hb1)
 have Y2:=hide (X2.out.below hb1)
 have Y3:=hide (X3.out.below hb1)
 have B1:=hide (B0.out.trans (hb1.mono B0.out.size))
 clear X0 X1 X2 X3 B0 S0 hb1
 cases hL : lensI d x y with
 | none =>
   have e6:=hide (show unpC d x y = 6 by unfold unpC; rw [hL])
   clear hL
   unfold findE noLens
   obtain ⟨p0, p1, p2, p3⟩ := box3 Y2.out
   obtain ⟨q0, q1, q2, q3, q4, q5⟩ := box5 Y3.out
   have z1 : w.heap.size + 1 + 1 < w1.heap.size:=by omega
   have z2 : w.heap.size + 1 + 1 + 1 < w1.heap.size:=by omega
   go_wp2
   refine bodyPost_ret (v := .tuple #[nilD, nilM, .int .i64 6]) ?_ rfl ?_
   ·obtain ⟨e0, e1, e2, e3, e4, e5, e6, e7⟩ := fin8 (Y2.out) (Y3.out) rfl rfl (by omega) (.slice none 0 0) (.slice none 0 0) (.int .i64 0) (.int .i64 0) (.int .i64 0) (.int .i64 0) (.int .i64 0) (.bool false)
    unfold nilD nilM
    simp [results, Try.results51, go_sem, e0, e1, e2, e3, e4, e5, e6, e7, z1, z2]
   ·refine ⟨fun _ => by rw [e6.out]; exact rfl, fun h => absurd h (by rw [e6.out]; decide), ?_⟩
    exact Below.alloc (below8 B1.out _ _ _ _ _ _ _ _) (below8 B1.out _ _ _ _ _ _ _ _).size _
 | some i =>
   have HL:=hide hL
   have E6:=hide (show unpC d x y = if 64 < unpL d (lensOf d (lnH x y i)) then 5 else 0 by unfold unpC; rw [hL])
   have hi8:=lens_lt hL
   obtain ⟨hI1, hI2, _⟩ := lens_is hL
   have hh : lnH x y i < 4 * d.n:=by unfold lnH; split <;> omega
   clear hL
   unfold findE
   simp only [lensOf_v]
   obtain ⟨l, hl⟩ : ∃ l, l = lensOf d (lnH x y i) := ⟨_, rfl⟩
   have hgg : Pl.nx d (lnH x y i) < 4 * d.n:=Pl.tn_lt (hd.lt _ hh)
   have k2 : l.p2 < m:=by rw [hl]; have := HM.out; have : Pl.tn (lnH x y i) 2 < 4 * d.n := Pl.tn_lt hh; show Pl.tn (lnH x y i) 2 < m; omega
   have k3 : l.p3 < m:=by rw [hl]; have := HM.out; have : Pl.tn (d.m (Pl.nx d (lnH x y i))) 2 < 4 * d.n := Pl.tn_lt (hd.lt _ hgg); show Pl.tn _ 2 < m; omega
   have j0 : l.q0 < m:=by rw [hl]; have := HM.out; have : Pl.tn (d.m (lnH x y i)) 2 < 4 * d.n := Pl.tn_lt (hd.lt _ hh); show Pl.tn _ 2 < m; omega
   have j1 : l.q1 < m:=by rw [hl]; have := HM.out; show Pl.nx d _ < m; omega
   have j3 : l.q3 < m:=by rw [hl]; have := HM.out; have : Pl.tn (Pl.nx d (lnH x y i)) 2 < 4 * d.n := Pl.tn_lt hgg; show Pl.tn _ 2 < m; omega
   rw [← hl] at E6 ⊢
   have HLL:=hide hl
   clear hl hgg hh hI1 hI2
   obtain ⟨p0, p1, p2, p3, q0, q1, q2, q3⟩ := l
   simp only at k2 k3 j0 j1 j3
   unfold Ln.cells
   obtain ⟨i0, hi0, hz0, hz1, hz2⟩ := info_parts intInfo
   obtain ⟨f0, f1, f2, f3⟩ := box3 Y0.out
   have z1 : w.heap.size < w1.heap.size:=by omega
   have hml : d.mt.length = m:=by have := hd.len; have := HM.out; omega
   have HML:=hide hml
   clear hml
   go_upto_region 4 with fail
   obtain ⟨V1, hV1⟩ : ∃ V1 : World, V1 = w1.alloc (.cells #[.int .i64 (p0 : Int), .int .i64 (p1 : Int), .int .i64 (p2 : Int), .int .i64 (p3 : Int), .int .i64 (q0 : Int), .int .i64 (q1 : Int), .int .i64 (q2 : Int), .int .i64 (q3 : Int)] 93) := ⟨_, rfl⟩
   rw [← hV1]
   obtain ⟨gl, hgl⟩ : ∃ gl, gl = w1.heap.size := ⟨_, rfl⟩
   rw [← hgl]
   have U1:=hide (show UP w gl [.slice A d.n cp, .slice B m cq, .int .i64 (d.lp : Int)] [.int .i64 k, .int .i64 (x : Int), .int .i64 (y : Int), .int .i64 sg, .bool ov] [.int .i64 (p0 : Int), .int .i64 (p1 : Int), .int .i64 (p2 : Int), .int .i64 (p3 : Int), .int .i64 (q0 : Int), .int .i64 (q1 : Int), .int .i64 (q2 : Int), .int .i64 (q3 : Int)] V1 by
    rw [hV1]
    exact ⟨Y0.out.alloc _, Y1.out.alloc _, ⟨_, Y2.out.alloc _, rfl⟩, ⟨_, Y3.out.alloc _, rfl⟩, row_at (vs := [_, _, _, _, _, _, _, _]) hgl, B1.out.alloc B1.out.size _, by omega⟩)
   clear hV1 hgl hsz Y0 Y1 Y2 Y3 B1 f0 f1 f2 f3 z1
   obtain ⟨f0, f1, f2, f3⟩ := box3 U1.out.d
   have HGM:=hide (show IntsAt V1 B m (nats d.mt) by rw [HM.out]; exact (HG.out.keep U1.out.bel).m)
   have hgl:=U1.out.l.lt
   go_wp2_with (at_builtin; refine wpList_append_ints _ rfl _ _ 22 rfl V1.heap.size 3 i0 (.int .i64 0) 8 Try.underlying22 hi0 hz0 hz1 hz2 rfl (.slice none 0 0) 0 [] (by rfl) (World.ownsRow_nil _ _ _ _) B m cq (nats d.mt) (by rfl) HGM.out (by unfold maxLen; omega) (by omega) (Nat.le_refl _) ?_; intro v2 w2 own2 grow2)
   simp only [Nat.zero_add, List.nil_append] at own2
   obtain ⟨A2, c2, rfl⟩ := owns_slice own2
   obtain ⟨g2, rfl, lo2, hi2⟩ := owns_pos (by omega) own2
   have OWN2:=hide (show OwnN w2 V1.heap.size g2 m c2 d.mt by unfold OwnN; rw [← map_nats]; exact own2)
   have U2:=hide (U1.out.grown grow2 (fun k hk => by simp [Value.ownBlock] at hk))
   clear own2 grow2 f0 f1 f2 f3 hi2
   have hg2 : gl < g2:=by omega
   obtain ⟨base, hbase⟩ : ∃ base, base = V1.heap.size := ⟨_, rfl⟩
   rw [← hbase] at OWN2 lo2
   have hbl : gl < base:=by omega
   clear hbase hgl HGM
   have HLT:=hide (show ∀ k, k < m → d.mt.getD k 0 < m from fun k hk => by
    rw [getD_m (by rw [HML.out]; exact hk)]
    have:=hd.lt k (by have := HM.out; omega)
    have:=HM.out
    omega)
   -- the first strand
   obtain ⟨LA, hLA⟩ : ∃ LA, LA = unpA d ⟨p0, p1, p2, p3, q0, q1, q2, q3⟩ := ⟨_, rfl⟩
   obtain ⟨ca, hca⟩ : ∃ ca : Nat, ca = if d.mt.getD p2 0 = q0 then 1 else 0 := ⟨_, rfl⟩
   have hca1 : ca ≤ 1:=by rw [hca]; split <;> omega
   have CA:=hide (show ∀ W, OwnN W base g2 m c2 d.mt → Calls Try.prog 81 #[.slice (some ⟨g2, 0, none⟩) m c2, .int .i64 (p2 : Int), .int .i64 (q0 : Int)] W fun e w' => e = .returned (.int .i64 (ca : Int)) ∧ OwnN w' base g2 m c2 LA ∧ W.grownBy w' (some g2) from fun W hW => by
    refine (closed_any base g2 m c2 p2 q0 d.mt W hW k2 j0 (by omega) HLT.out).mono ?_
    rintro e w' ⟨h1, h2, h3⟩
    refine ⟨?_, ?_, h3⟩
    ·rw [h1, hca]; split <;> rfl
    ·rw [hLA]; exact h2)
   have HLA:=hide (show (∀ k, k < m → LA.getD k 0 < m) ∧ LA.length = m from by
    rw [hLA]
    unfold unpA
    simp only
    split
    ·exact ⟨HLT.out, HML.out⟩
    ·exact ⟨jn_lt HML.out HLT.out (HLT.out _ k2) (HLT.out _ j0), by rw [jn_len]; exact HML.out⟩)
   have HLAE:=hide hLA
   have HCAE:=hide hca
   clear hLA hca
   obtain ⟨f0, f1, f2, f3⟩ := box3 U2.out.d
   obtain ⟨e0, e1, e2, e3, e4, e5, e6, e7, e8⟩ := box8 U2.out.l
   have hl1:=U2.out.l.lt
   have hl2:=U2.out.d.lt
   go_upto_region 5 with fail
   go_cut [10] (fun s10 wx => s10 = .int .i64 ((d.lp : Int) + (ca : Int)) ∧ UP w gl [.slice A d.n cp, .slice B m cq, .int .i64 (d.lp : Int)] [.int .i64 k, .int .i64 (x : Int), .int .i64 (y : Int), .int .i64 sg, .bool ov] [.int .i64 (p0 : Int), .int .i64 (p1 : Int), .int .i64 (p2 : Int), .int .i64 (p3 : Int), .int .i64 (q0 : Int), .int .i64 (q1 : Int), .int .i64 (q2 : Int), .int .i64 (q3 : Int)] wx ∧ OwnN wx base g2 m c2 LA)
   case first =>
    have hwr : IntKind.i64.wrap ((d.lp : Int) + (ca : Int)) = (d.lp : Int) + (ca : Int):=IntWalk.i64_in _ (by omega)
    go_region_held3 (fun w' => w'.cell? ⟨w.heap.size, 2, none⟩ = some (.int .i64 (d.lp : Int)) ∧ w'.cell? ⟨gl, 2, none⟩ = some (.int .i64 (p2 : Int)) ∧ w'.cell? ⟨gl, 4, none⟩ = some (.int .i64 (q0 : Int))) (first | go_keep | assumption | (exact ⟨k5, k6, k7⟩))
     (first
       | (go_at_call 81
          refine Calls.mono (CA.out _ ?_) ?_
          ·exact OwnN.drew' rfl OWN2.out
          rintro e w3 ⟨rfl, own3, gr3⟩
          have U3:=hide (U2.out.drew.grown gr3 (fun k hk => by injection hk with hk; omega))
          have OWN3:=hide own3
          obtain ⟨_, _, k5, _⟩ := box3 U3.out.d
          obtain ⟨_, _, k6, _, k7, _⟩ := box8 U3.out.l
          clear own3 gr3))
    all_goals
     go_wp2_with fail
     go_meet
     exact ⟨rfl, U3.out, OWN3.out⟩
   case rest =>
    obtain ⟨rfl, hu4, ho4⟩ := hcut
    have U4:=hide hu4
    have OWN4:=hide ho4
    clear hu4 ho4 f0 f1 f2 f3 e0 e1 e2 e3 e4 e5 e6 e7 e8 U1 U2 OWN2 CA hl1 hl2
    obtain ⟨e0, e1, e2, e3, e4, e5, e6, e7, e8⟩ := box8 U4.out.l
    obtain ⟨LB, hLB⟩ : ∃ LB, LB = unpB d ⟨p0, p1, p2, p3, q0, q1, q2, q3⟩ := ⟨_, rfl⟩
    obtain ⟨cb, hcb⟩ : ∃ cb : Nat, cb = if LA.getD p3 0 = q3 then 1 else 0 := ⟨_, rfl⟩
    have hcb1 : cb ≤ 1:=by rw [hcb]; split <;> omega
    have HLBE:=hide hLB
    have E7:=hide (show unpL d ⟨p0, p1, p2, p3, q0, q1, q2, q3⟩ = d.lp + ca + cb by unfold unpL; simp only; rw [HCAE.out, hcb, HLAE.out])
    have CB:=hide (show ∀ W, OwnN W base g2 m c2 LA → Calls Try.prog 81 #[.slice (some ⟨g2, 0, none⟩) m c2, .int .i64 (p3 : Int), .int .i64 (q3 : Int)] W fun e w' => e = .returned (.int .i64 (cb : Int)) ∧ OwnN w' base g2 m c2 LB ∧ W.grownBy w' (some g2) from fun W hW => by
     refine (closed_any base g2 m c2 p3 q3 LA W hW k3 j3 (by omega) HLA.out.1).mono ?_
     rintro e w' ⟨h1, h2, h3⟩
     refine ⟨?_, ?_, h3⟩
     ·rw [h1, hcb]; split <;> rfl
     ·rw [hLB]; unfold unpB; simp only; rw [← HLAE.out]; exact h2)
    have HLB:=hide (show (∀ k, LB.getD k 0 ≤ 1000) from fun k => by
     have key : ∀ k, k < m → LB.getD k 0 < m:=by
      rw [hLB]
      unfold unpB
      simp only
      rw [← HLAE.out]
      split
      ·exact HLA.out.1
      ·exact jn_lt HLA.out.2 HLA.out.1 (HLA.out.1 _ k3) (HLA.out.1 _ j3)
     have len : LB.length = m:=by
      rw [hLB]
      unfold unpB
      simp only
      rw [← HLAE.out]
      split
      ·exact HLA.out.2
      ·rw [jn_len]; exact HLA.out.2
     rcases Nat.lt_or_ge k m with h | h
     ·have:=key k h; omega
     ·rw [List.getD_eq_getElem?_getD, List.getElem?_eq_none (by omega)]; simp)
    clear hLB hcb HLA HLT
    have hwr : IntKind.i64.wrap ((d.lp : Int) + (ca : Int) + (cb : Int)) = (d.lp : Int) + (ca : Int) + (cb : Int):=IntWalk.i64_in _ (by omega)
    go_wp2_with fail
    refine (CB.out _ OWN4.out).mono ?_
    rintro e w5 ⟨rfl, own5, gr5⟩
    have U5:=hide (U4.out.grown gr5 (fun k hk => by injection hk with hk; omega))
    have OWN5:=hide own5
    clear own5 gr5 e0 e1 e2 e3 e4 e5 e6 e7 e8 U4 OWN4 CB
    by_cases hfull : 64 < d.lp + ca + cb
    ·have hfu : (64 : Int) < (d.lp : Int) + (ca : Int) + (cb : Int):=by omega
     have E8:=hide (show unpC d x y = 5 by rw [E6.out, E7.out, if_pos hfull])
     obtain ⟨vs, r1, l1⟩ := U5.out.rd
     obtain ⟨us, r2, l2⟩ := U5.out.rm
     obtain ⟨_, _, _, _, _, _, _, _, _, _, _, _, _, _, _, _, p0', p1', p2', q0', q1', q2', q3', q4', fr1, fr2, _⟩ := U5.out.all
     go_wp2
     refine bodyPost_ret (v := .tuple #[nilD, nilM, .int .i64 5]) ?_ rfl ?_
     ·obtain ⟨e0, e1, e2, e3, e4, e5, e6, e7⟩ := fin8 r1 r2 l1 l2 (by omega) (.slice none 0 0) (.slice none 0 0) (.int .i64 0) (.int .i64 0) (.int .i64 0) (.int .i64 0) (.int .i64 0) (.bool false)
      clear p0' p1' p2' q0' q1' q2' q3' q4'
      unfold nilD nilM
      simp [results, Try.results51, go_sem, e0, e1, e2, e3, e4, e5, e6, e7]
     ·exact ⟨fun _ => by rw [E8.out]; exact rfl, fun h => absurd h (by rw [E8.out]; decide), below8 U5.out.bel _ _ _ _ _ _ _ _⟩
    ·have hfu : (d.lp : Int) + (ca : Int) + (cb : Int) ≤ 64:=by omega
     have E8:=hide (show unpC d x y = 0 by rw [E6.out, E7.out, if_neg hfull])
     have hgl:=U5.out.l.lt
     have hdl:=U5.out.d.lt
     have hlo:=U5.out.lo
     have z0 : w.heap.size + 1 < w5.heap.size:=by omega
     have z1 : w.heap.size + 1 + 1 < w5.heap.size:=by omega
     have z2 : w.heap.size + 1 + 1 + 1 < w5.heap.size:=by omega
     go_upto_region 9 with fail
     have HCAP:=hide OWN5.out.caps
     have HG5:=hide (HG.out.keep U5.out.bel)
     have KS:=hide (IntsAt.drew ((HG5.out.s).alloc (.cells #[.int .i64 (x : Int), .int .i64 (y : Int)] 3)))
     have KM:=hide (OwnN.ints (OwnN.drew' rfl (OWN5.out.alloc (.cells #[.int .i64 (x : Int), .int .i64 (y : Int)] 3))))
     have KG:=hide (two_ints w5 (x : Int) (y : Int))
     obtain ⟨s0, s1, s2, s3, s4, s5, s6, s7, t0, t1, t2, t3, t4, t5, t6, t7, p0', p1', p2', q0', q1', q2', q3', q4', fr1, fr2, _⟩ := U5.out.all
     go_region_held3 (fun w' => w'.cell? ⟨w.heap.size, 0, none⟩ = some (.slice A d.n cp) ∧ w'.cell? ⟨w.heap.size, 1, none⟩ = some (.slice B m cq) ∧ w'.cell? ⟨w.heap.size, 2, none⟩ = some (.int .i64 (d.lp : Int)) ∧
      w'.cell? ⟨w.heap.size + 1, 0, none⟩ = some (.int .i64 k) ∧ w'.cell? ⟨w.heap.size + 1, 1, none⟩ = some (.int .i64 (x : Int)) ∧ w'.cell? ⟨w.heap.size + 1, 2, none⟩ = some (.int .i64 (y : Int)) ∧ w'.cell? ⟨w.heap.size + 1, 3, none⟩ = some (.int .i64 sg) ∧ w'.cell? ⟨w.heap.size + 1, 4, none⟩ = some (.bool ov) ∧
      w'.cell? ⟨gl, 0, none⟩ = some (.int .i64 (p0 : Int)) ∧ w'.cell? ⟨gl, 1, none⟩ = some (.int .i64 (p1 : Int)) ∧ w'.cell? ⟨gl, 2, none⟩ = some (.int .i64 (p2 : Int)) ∧ w'.cell? ⟨gl, 3, none⟩ = some (.int .i64 (p3 : Int)) ∧ w'.cell? ⟨gl, 4, none⟩ = some (.int .i64 (q0 : Int)) ∧ w'.cell? ⟨gl, 5, none⟩ = some (.int .i64 (q1 : Int)) ∧ w'.cell? ⟨gl, 6, none⟩ = some (.int .i64 (q2 : Int)) ∧ w'.cell? ⟨gl, 7, none⟩ = some (.int .i64 (q3 : Int)) ∧
      w'.cell? ⟨w.heap.size + 1 + 1, 0, none⟩ = some (cv w' ⟨w.heap.size + 1 + 1, 0, none⟩) ∧ w'.cell? ⟨w.heap.size + 1 + 1, 1, none⟩ = some (cv w' ⟨w.heap.size + 1 + 1, 1, none⟩) ∧ w'.cell? ⟨w.heap.size + 1 + 1, 2, none⟩ = some (cv w' ⟨w.heap.size + 1 + 1, 2, none⟩) ∧
      w'.cell? ⟨w.heap.size + 1 + 1 + 1, 0, none⟩ = some (cv w' ⟨w.heap.size + 1 + 1 + 1, 0, none⟩) ∧ w'.cell? ⟨w.heap.size + 1 + 1 + 1, 1, none⟩ = some (cv w' ⟨w.heap.size + 1 + 1 + 1, 1, none⟩) ∧ w'.cell? ⟨w.heap.size + 1 + 1 + 1, 2, none⟩ = some (cv w' ⟨w.heap.size + 1 + 1 + 1, 2, none⟩) ∧ w'.cell? ⟨w.heap.size + 1 + 1 + 1, 3, none⟩ = some (cv w' ⟨w.heap.size + 1 + 1 + 1, 3, none⟩) ∧ w'.cell? ⟨w.heap.size + 1 + 1 + 1, 4, none⟩ = some (cv w' ⟨w.heap.size + 1 + 1 + 1, 4, none⟩) ∧
      (∀ o, w'.frozen? ⟨w.heap.size + 1 + 1, o, none⟩ = false) ∧ (∀ o, w'.frozen? ⟨w.heap.size + 1 + 1 + 1, o, none⟩ = false) ∧ UP w gl [.slice A d.n cp, .slice B m cq, .int .i64 (d.lp : Int)] [.int .i64 k, .int .i64 (x : Int), .int .i64 (y : Int), .int .i64 sg, .bool ov] [.int .i64 (p0 : Int), .int .i64 (p1 : Int), .int .i64 (p2 : Int), .int .i64 (p3 : Int), .int .i64 (q0 : Int), .int .i64 (q1 : Int), .int .i64 (q2 : Int), .int .i64 (q3 : Int)] w')
      ((go_split_ands; refine UP.all ?_; (repeat (first | (with_reducible assumption) | (with_reducible exact U5.out) | (with_reducible refine UP.setD ?_ _ _) | (with_reducible refine UP.setM ?_ _ _) | (with_reducible refine UP.alloc ?_ _) | (with_reducible refine UP.drew ?_) | (with_reducible refine UP.below ?_ hb7) | (with_reducible refine UP.below ?_ hb6)))))
      (first
        | (have hx6 := hb6
           clear hx6
           go_at_call 93
           refine Calls.mono (pushed_v d hd A B cp cq m x y k sg ov p0 p1 p2 p3 q0 q1 q2 q3 _ HM.out ?_ hxy k2 k3 j0 j3 j1) ?_
           ·exact (HG.out.keep (((U5.out.alloc (.cells #[.int .i64 (x : Int), .int .i64 (y : Int)] 3)).drew.below hb6)).bel)
           rintro e w7 ⟨XX, YY, SS, bb, rfl, hpus, hb7⟩
           have HPUS:=hide hpus
           clear hpus)
        | (go_at_call 83
           refine Calls.mono (shrunk_sl [x, y] d.sg LB ((d.lp : Int) + (ca : Int) + (cb : Int)) A (some ⟨g2, 0, none⟩) (some ⟨w5.heap.size, 0, none⟩) d.n m 2 cp c2 2 _ ?_ ?_ ?_ (Pl.few_two hxy) HM.out HCAP.out.1 HCAP.out.2 (by omega) (by omega) HLB.out) ?_
           ·exact KS.out
           ·exact KM.out
           ·exact KG.out
           rintro e w6 ⟨A7, A8, c7, c8, rfl, owS, owM, hb6⟩
           have OWS:=hide owS
           have OWM:=hide owM
           clear owS owM))
     have U7:=hide ((((U5.out.alloc (.cells #[.int .i64 (x : Int), .int .i64 (y : Int)] 3)).drew.below hb6)).below hb7)
     clear s0 s1 s2 s3 s4 s5 s6 s7 t0 t1 t2 t3 t4 t5 t6 t7 p0' p1' p2' q0' q1' q2' q3' q4'
     obtain ⟨vs6, r6, l6⟩ := U7.out.rd
     obtain ⟨us6, t6, k6⟩ := U7.out.rm
     go_wp2
     refine bodyPost_ret (v := .tuple #[.agg #[.slice A7 (Pl.left d.sg.length [x, y]).length c7, .slice A8 (4 * (Pl.left d.sg.length [x, y]).length) c8, .int .i64 ((d.lp : Int) + (ca : Int) + (cb : Int))], .agg #[.int .i64 3, .int .i64 XX, .int .i64 YY, .int .i64 SS, .bool bb], .int .i64 0]) ?_ rfl ?_
     ·obtain ⟨e0, e1, e2, e3, e4, e5, e6, e7⟩ := fin8 r6 t6 l6 k6 (by omega) (.slice A7 (Pl.left d.sg.length [x, y]).length c7) (.slice A8 (4 * (Pl.left d.sg.length [x, y]).length) c8) (.int .i64 ((d.lp : Int) + (ca : Int) + (cb : Int))) (.int .i64 3) (.int .i64 XX) (.int .i64 YY) (.int .i64 SS) (.bool bb)
      simp [results, Try.results51, go_sem, e0, e1, e2, e3, e4, e5, e6, e7]
     ·have hn7 : (unpDl d ⟨p0, p1, p2, p3, q0, q1, q2, q3⟩ x y).n = (Pl.left d.sg.length [x, y]).length:=by unfold unpDl Pl.Dg.n; exact Pl.shrS_len _ _
      have hlp7 : ((unpDl d ⟨p0, p1, p2, p3, q0, q1, q2, q3⟩ x y).lp : Int) = (d.lp : Int) + (ca : Int) + (cb : Int):=by show ((unpL d _ : Nat) : Int) = _; rw [E7.out]; omega
      have hbs : w.heap.size + 1 + 1 + 1 < (w5.alloc (.cells #[.int .i64 (x : Int), .int .i64 (y : Int)] 3)).drew.heap.size + 2:=by simp; omega
      refine ⟨fun h => absurd E8.out h, fun _ => ⟨i, HL.out, ?_⟩, below8 U7.out.bel _ _ _ _ _ _ _ _⟩
      rw [← HLL.out, HPUS.out]
      refine ⟨A7, A8, c7, c8, ?_, ?_, ?_⟩
      ·rw [hn7, hlp7]
       rfl
      ·rw [hn7]
       exact own_intsT (c := c7) (own8 (own_keep OWS.out hb7 (Nat.le_refl _)) hbs _ _ _ _ _ _ _ _)
      ·rw [hn7]
       refine own_intsT (c := c8) (own8 (?_ : w7.ownsRow _ _ _ _ _ _) hbs _ _ _ _ _ _ _ _)
       rw [map_nats]
       have:=own_keep OWM.out hb7 (Nat.le_refl _)
       rw [HLBE.out] at this
       exact this
end Go.Proofs.Ytobbepmlmbbamaa
end
section
namespace Go.Proofs.Ytobbepmlmbbamaa
open Go Go.RowKit
def isB (d : Pl.Dg) (a b h : Nat) : Prop := ((h / 4 = a ∧ d.m h / 4 = b) ∨ (h / 4 = b ∧ d.m h / 4 = a)) ∧ Pl.nx d (Pl.nx d h) = h ∧ h % 2 = d.m h % 2
def bigV (d : Pl.Dg) (a b : Nat) : Int := match lensI d a b with
 | some i => (lnH a b i : Nat)
 | none => -1
theorem nx_div (d : Pl.Dg) (h : Nat) : Pl.nx d h / 4 = d.m h / 4 := by unfold Pl.nx; exact Pl.tn_div _ _
theorem isB_L {d : Pl.Dg} {a b i : Nat} (hab : a < b) (hi : i < 8) : isB d a b (lnH a b i) ↔ isL d a b i := by
 unfold isB isL
 rw [nx_div]
 by_cases h : i < 4
 ·have e1 : lnH a b i / 4 = a:=by unfold lnH; rw [if_pos h]; omega
  have e2 : lnO a b i = b:=by unfold lnO; rw [if_pos h]
  rw [e1, e2]
  constructor
  ·rintro ⟨h1 | h1, h2, h3⟩
   ·exact ⟨h1.2, h2, h3⟩
   ·omega
  ·rintro ⟨h1, h2, h3⟩; exact ⟨.inl ⟨rfl, h1⟩, h2, h3⟩
 ·have e1 : lnH a b i / 4 = b:=by unfold lnH; rw [if_neg h]; omega
  have e2 : lnO a b i = a:=by unfold lnO; rw [if_neg h]
  rw [e1, e2]
  constructor
  ·rintro ⟨h1 | h1, h2, h3⟩
   ·omega
   ·exact ⟨h1.2, h2, h3⟩
  ·rintro ⟨h1, h2, h3⟩; exact ⟨.inr ⟨rfl, h1⟩, h2, h3⟩
theorem isB_i {d : Pl.Dg} {a b h : Nat} (hB : isB d a b h) : ∃ i, i < 8 ∧ lnH a b i = h := by
 rcases hB.1 with h1 | h1
 ·exact ⟨h - 4 * a, by omega, by unfold lnH; rw [if_pos (by omega)]; omega⟩
 ·exact ⟨h - 4 * b + 4, by omega, by unfold lnH; rw [if_neg (by omega)]; omega⟩
theorem lnH_mono {a b i j : Nat} (hab : a < b) (hij : i < j) (hj : j < 8) : lnH a b i < lnH a b j := by
 unfold lnH; split <;> split <;> omega
theorem bigV_at {d : Pl.Dg} {a b h : Nat} (hab : a < b) (hB : isB d a b h) (hn : ∀ g, g < h → ¬ isB d a b g) : bigV d a b = h := by
 obtain ⟨i, hi, rfl⟩ := isB_i hB
 unfold bigV
 rw [lens_at hi ((isB_L hab hi).1 hB) (fun j hj t => hn _ (lnH_mono hab hj hi) ((isB_L hab (by omega)).2 t))]
theorem bigV_no {d : Pl.Dg} {a b : Nat} (hab : a < b) (hb : b < d.n) (hn : ∀ g, g < 4 * d.n → ¬ isB d a b g) : bigV d a b = -1 := by
 unfold bigV
 rw [lens_no (fun j hj t => hn (lnH a b j) (by unfold lnH; split <;> omega) ((isB_L hab hj).2 t))]
set_option maxRecDepth 100000 in
set_option maxHeartbeats 4000000 in
theorem rbigon_any (d : Pl.Dg) (hd : Pl.Wf d) (A B : Option Addr) (cp cq m : Nat) (l : Value) (a b : Nat) (w : World) (hm : m = 4 * d.n) (hb : IntsAt w B m (nats d.mt)) (hab : a < b) (hbn : b < d.n) :
 Calls Try.prog 103 #[.agg #[.slice A d.n cp, .slice B m cq, l], .int .i64 (a : Int), .int .i64 (b : Int)] w fun e w' => e = .returned (.int .i64 (bigV d a b)) ∧ Below w.heap.size w w' := by
 have hn:=hd.few
 have HD:=hide hd
 have HM:=hide hm
 have HB:=hide hb
 have hm2 : m ≤ 256:=by omega
 have X0:=hide (row_at (W := w) (g := w.heap.size) (t := 24) (vs := [.slice A d.n cp, .slice B m cq, l]) rfl)
 have B0:=hide (show Below w.heap.size w (w.alloc (.cells #[.slice A d.n cp, .slice B m cq, l] 24)) from (Below.refl _ _).alloc (Nat.le_refl _) _)
 clear hm hb hd
 go_enter Try.func103, Try.ntmps103
 go_wp2
 go_loopg [7] m (fun g i wx => ∃ k : Nat, k + g = m ∧ i = .int .i64 k ∧ (∀ j, j < k → ¬ isB d a b j) ∧ Row wx w.heap.size 24 [.slice A d.n cp, .slice B m cq, l] ∧ Below w.heap.size w wx)
 case atStart => exact ⟨0, by omega, rfl, fun j hj => absurd hj (by omega), X0.out, B0.out⟩
 case round =>
  clear X0 B0
  obtain ⟨h, hkg, rfl, hno, hx, hb⟩ := hrel
  have HKG:=hide hkg
  have HN:=hide hno
  have X:=hide hx
  have BL:=hide hb
  have hkm : h ≤ m:=by omega
  clear hkg hno hx hb
  obtain ⟨d0, d1, d2, d3⟩ := box3 X.out
  by_cases hlt : h < m
  ·have hh : h < 4 * d.n:=by have := HM.out; omega
   obtain ⟨bb, bo, rfl, mc⟩ := mate_at (by rw [← HM.out]; exact HB.out.keep BL.out) hh
   have HIB:=hide (show isB d a b h ↔ ((h / 4 = a ∧ d.m h / 4 = b) ∨ (h / 4 = b ∧ d.m h / 4 = a)) ∧ Pl.nx d (Pl.nx d h) = h ∧ h % 2 = d.m h % 2 from Iff.rfl)
   have hy4:=HD.out.lt h hh
   obtain ⟨y, hy⟩ : ∃ y, y = d.m h := ⟨_, rfl⟩
   have HY:=hide hy
   rw [← hy] at mc hy4 HIB
   clear hy
   have h0 : (0 : Int) ≤ (h : Int):=by omega
   have h1 : (h : Int) < (m : Int):=by omega
   have key : (¬ isB d a b h → ∀ j, j < h + 1 → ¬ isB d a b j):=fun hn j hj => by
    by_cases e : j = h
    ·rw [e]; exact hn
    ·exact HN.out j (by omega)
   have KEY:=hide key
   clear key
   by_cases hg : (h / 4 = a ∧ y / 4 = b) ∨ (h / 4 = b ∧ y / 4 = a)
   ·have hu4 : Pl.nx d h < 4 * d.n:=th_lt HD.out hh 1
    obtain ⟨u, hu⟩ : ∃ u, u = Pl.nx d h := ⟨_, rfl⟩
    obtain ⟨v, hv⟩ : ∃ v, v = Pl.nx d u := ⟨_, rfl⟩
    rw [← hu] at hu4
    have HU:=hide hu
    have HV:=hide (show v = Pl.nx d (Pl.nx d h) by rw [hv, hu])
    have hvu : Pl.nx d u = v:=hv.symm
    have hv4 : v < 4 * d.n:=by rw [HV.out]; exact th_lt HD.out hh 2
    have hNX : ∀ (p : Cls (DC w [.slice A d.n cp, .slice (some ⟨bb, bo, none⟩) m cq, l])) (x z : Nat), x < 4 * d.n → Pl.nx d x = z → Calls Try.prog 104 #[.agg #[.slice A d.n cp, .slice (some ⟨bb, bo, none⟩) m cq, l], .int .i64 (x : Int)] p.w fun e w'' => e = .returned (.int .i64 (z : Nat)) ∧ ∃ p : Cls (DC w [.slice A d.n cp, .slice (some ⟨bb, bo, none⟩) m cq, l]), w'' = p.w:=fun p x z hx hz =>
     calls_cls (rnext_any d HD.out A (some ⟨bb, bo, none⟩) cp cq m l x p.w HM.out (HB.out.keep p.ok.2) hx) (fun e w' h => ⟨by rw [h.1, hz], p.ok.1.below h.2, p.ok.2.trans (h.2.mono p.ok.2.size)⟩)
    have HSS:=hide hNX
    have c30 : ∀ p : Cls (DC w [.slice A d.n cp, .slice (some ⟨bb, bo, none⟩) m cq, l]), p.w.cell? ⟨w.heap.size, 0, none⟩ = some (.slice A d.n cp):=fun p => p.ok.1.cell (i := 0) (by show 0 < 3; omega)
    have c31 : ∀ p : Cls (DC w [.slice A d.n cp, .slice (some ⟨bb, bo, none⟩) m cq, l]), p.w.cell? ⟨w.heap.size, 1, none⟩ = some (.slice (some ⟨bb, bo, none⟩) m cq):=fun p => p.ok.1.cell (i := 1) (by show 1 < 3; omega)
    have c32 : ∀ p : Cls (DC w [.slice A d.n cp, .slice (some ⟨bb, bo, none⟩) m cq, l]), p.w.cell? ⟨w.heap.size, 2, none⟩ = some l:=fun p => p.ok.1.cell (i := 2) (by show 2 < 3; omega)
    have c33 : ∀ p : Cls (DC w [.slice A d.n cp, .slice (some ⟨bb, bo, none⟩) m cq, l]), p.w.cell? ⟨bb, bo + h, none⟩ = some (.int .i64 (y : Nat)):=fun p => by
     obtain ⟨_, _, e1, mc'⟩ := mate_at (by rw [← HM.out]; exact HB.out.keep p.ok.2) hh
     injection e1 with e1
     injection e1 with e1 e2
     subst e1; subst e2
     rw [HY.out]; exact mc'
    have HVU:=hide hvu
    have HG:=hide hg
    clear hNX hu hv hvu
    have DC0:=hide (show DC w [.slice A d.n cp, .slice (some ⟨bb, bo, none⟩) m cq, l] wr.drew from ⟨X.out.drew, BL.out.drew⟩)
    by_cases hvh : v = h
    ·have hx2 : h % 2 = 0 ∨ h % 2 = 1:=by omega
     have hy2 : y % 2 = 0 ∨ y % 2 = 1:=by omega
     have tv : ((v : Int) == (h : Int)) = true:=by rw [beq_iff_eq]; omega
     have HVH:=hide hvh
     clear hvh
     rcases hg with ⟨g1, g2⟩ | ⟨g1, g2⟩
     ·have t1 : ((h : Int) / 4 == (a : Int)) = true:=by rw [beq_iff_eq]; omega
      have t2 : ((y : Int) / 4 == (b : Int)) = true:=by rw [beq_iff_eq]; omega
      rcases hx2 with hx2 | hx2 <;> rcases hy2 with hy2 | hy2
      all_goals
       have XX:=hide hx2
       have YY:=hide hy2
       have ex : (h : Int) % 2 = ((h % 2 : Nat) : Int):=by omega
       have ey : (y : Int) % 2 = ((y % 2 : Nat) : Int):=by omega
       rw [hx2] at ex
       rw [hy2] at ey
       clear hx2 hy2 g1 g2
       go_wp2_with fail
       refine wp_region_cls (DC w [.slice A d.n cp, .slice (some ⟨bb, bo, none⟩) m cq, l]) (by kernel_rfl) (by kernel_rfl) DC0.out (fun hne => ?_)
       repeat (go_big_quiet_step ((go_at_call 104; first | exact HSS.out _ _ u (by omega) HU.out.symm | exact HSS.out _ _ v (by omega) HVU.out)))
       refine wpQuiet_nil ?_
       rintro _ ⟨p, rfl⟩
       have hp1:=hide p.ok.1
       have hp2:=hide p.ok.2
       clear HSS c30 c31 c32 c33
       go_wp2
       first
        | (go_ret
           refine ⟨ret_int ?_, hp2.out⟩
           exact (bigV_at hab (HIB.out.2 ⟨HG.out, by rw [← HV.out, HVH.out], by have := XX.out; have := YY.out; omega⟩) HN.out).symm)
        | (go_roundg (gk - 1)
           case measure => have := HKG.out; omega
           case rel => exact ⟨h + 1, by have := HKG.out; omega, by go_num, KEY.out (fun t => by have := (HIB.out.1 t).2.2; have := XX.out; have := YY.out; omega), hp1.out, hp2.out⟩)
     ·have t0 : ((h : Int) / 4 == (a : Int)) = false:=by rw [beq_eq_false_iff_ne]; omega
      have t1 : ((h : Int) / 4 == (b : Int)) = true:=by rw [beq_iff_eq]; omega
      have t2 : ((y : Int) / 4 == (a : Int)) = true:=by rw [beq_iff_eq]; omega
      rcases hx2 with hx2 | hx2 <;> rcases hy2 with hy2 | hy2
      all_goals
       have XX:=hide hx2
       have YY:=hide hy2
       have ex : (h : Int) % 2 = ((h % 2 : Nat) : Int):=by omega
       have ey : (y : Int) % 2 = ((y % 2 : Nat) : Int):=by omega
       rw [hx2] at ex
       rw [hy2] at ey
       clear hx2 hy2 g1 g2
       go_wp2_with fail
       refine wp_region_cls (DC w [.slice A d.n cp, .slice (some ⟨bb, bo, none⟩) m cq, l]) (by kernel_rfl) (by kernel_rfl) DC0.out (fun hne => ?_)
       repeat (go_big_quiet_step ((go_at_call 104; first | exact HSS.out _ _ u (by omega) HU.out.symm | exact HSS.out _ _ v (by omega) HVU.out)))
       refine wpQuiet_nil ?_
       rintro _ ⟨p, rfl⟩
       have hp1:=hide p.ok.1
       have hp2:=hide p.ok.2
       clear HSS c30 c31 c32 c33
       go_wp2
       first
        | (go_ret
           refine ⟨ret_int ?_, hp2.out⟩
           exact (bigV_at hab (HIB.out.2 ⟨HG.out, by rw [← HV.out, HVH.out], by have := XX.out; have := YY.out; omega⟩) HN.out).symm)
        | (go_roundg (gk - 1)
           case measure => have := HKG.out; omega
           case rel => exact ⟨h + 1, by have := HKG.out; omega, by go_num, KEY.out (fun t => by have := (HIB.out.1 t).2.2; have := XX.out; have := YY.out; omega), hp1.out, hp2.out⟩)
    ·have tv : ((v : Int) == (h : Int)) = false:=by rw [beq_eq_false_iff_ne]; omega
     have HVH:=hide hvh
     clear hvh
     rcases hg with ⟨g1, g2⟩ | ⟨g1, g2⟩
     ·have t1 : ((h : Int) / 4 == (a : Int)) = true:=by rw [beq_iff_eq]; omega
      have t2 : ((y : Int) / 4 == (b : Int)) = true:=by rw [beq_iff_eq]; omega
      clear g1 g2
      go_wp2_with fail
      refine wp_region_cls (DC w [.slice A d.n cp, .slice (some ⟨bb, bo, none⟩) m cq, l]) (by kernel_rfl) (by kernel_rfl) DC0.out (fun hne => ?_)
      repeat (go_big_quiet_step ((go_at_call 104; first | exact HSS.out _ _ u (by omega) HU.out.symm | exact HSS.out _ _ v (by omega) HVU.out)))
      refine wpQuiet_nil ?_
      rintro _ ⟨p, rfl⟩
      have hp1:=hide p.ok.1
      have hp2:=hide p.ok.2
      clear HSS c30 c31 c32 c33
      go_wp2
      go_roundg (gk - 1)
      case measure => have := HKG.out; omega
      case rel => exact ⟨h + 1, by have := HKG.out; omega, by go_num, KEY.out (fun t => HVH.out (by rw [HV.out]; exact (HIB.out.1 t).2.1)), hp1.out, hp2.out⟩
     ·have t0 : ((h : Int) / 4 == (a : Int)) = false:=by rw [beq_eq_false_iff_ne]; omega
      have t1 : ((h : Int) / 4 == (b : Int)) = true:=by rw [beq_iff_eq]; omega
      have t2 : ((y : Int) / 4 == (a : Int)) = true:=by rw [beq_iff_eq]; omega
      clear g1 g2
      go_wp2_with fail
      refine wp_region_cls (DC w [.slice A d.n cp, .slice (some ⟨bb, bo, none⟩) m cq, l]) (by kernel_rfl) (by kernel_rfl) DC0.out (fun hne => ?_)
      repeat (go_big_quiet_step ((go_at_call 104; first | exact HSS.out _ _ u (by omega) HU.out.symm | exact HSS.out _ _ v (by omega) HVU.out)))
      refine wpQuiet_nil ?_
      rintro _ ⟨p, rfl⟩
      have hp1:=hide p.ok.1
      have hp2:=hide p.ok.2
      clear HSS c30 c31 c32 c33
      go_wp2
      go_roundg (gk - 1)
      case measure => have := HKG.out; omega
      case rel => exact ⟨h + 1, by have := HKG.out; omega, by go_num, KEY.out (fun t => HVH.out (by rw [HV.out]; exact (HIB.out.1 t).2.1)), hp1.out, hp2.out⟩
   ·have HNB:=hide (KEY.out (fun t => hg (HIB.out.1 t).1))
    by_cases g1 : h / 4 = a
    ·have t1 : ((h : Int) / 4 == (a : Int)) = true:=by rw [beq_iff_eq]; omega
     have t2 : ((y : Int) / 4 == (b : Int)) = false:=by rw [beq_eq_false_iff_ne]; omega
     have t3 : ((h : Int) / 4 == (b : Int)) = false:=by rw [beq_eq_false_iff_ne]; omega
     clear g1 hg
     go_wp2_with fail
     go_quiet (fail)
     go_wp2
     go_roundg (gk - 1)
     case measure => have := HKG.out; omega
     case rel => exact ⟨h + 1, by have := HKG.out; omega, by go_num, HNB.out, X.out, Below.drewN' BL.out _⟩
    ·have t1 : ((h : Int) / 4 == (a : Int)) = false:=by rw [beq_eq_false_iff_ne]; omega
     by_cases g2 : h / 4 = b
     ·have t2 : ((h : Int) / 4 == (b : Int)) = true:=by rw [beq_iff_eq]; omega
      have t3 : ((y : Int) / 4 == (a : Int)) = false:=by rw [beq_eq_false_iff_ne]; omega
      clear g1 g2 hg
      go_wp2_with fail
      go_quiet (fail)
      go_wp2
      go_roundg (gk - 1)
      case measure => have := HKG.out; omega
      case rel => exact ⟨h + 1, by have := HKG.out; omega, by go_num, HNB.out, X.out, Below.drewN' BL.out _⟩
     ·have t2 : ((h : Int) / 4 == (b : Int)) = false:=by rw [beq_eq_false_iff_ne]; omega
      clear g1 g2 hg
      go_wp2_with fail
      go_quiet (fail)
      go_wp2
      go_roundg (gk - 1)
      case measure => have := HKG.out; omega
      case rel => exact ⟨h + 1, by have := HKG.out; omega, by go_num, HNB.out, X.out, Below.drewN' BL.out _⟩
  ·have HF:=hide (bigV_no hab hbn (fun g hg => HN.out g (by have := HM.out; omega)))
   go_wp2
   go_ret
   exact ⟨ret_int HF.out.symm, BL.out⟩
end Go.Proofs.Ytobbepmlmbbamaa
end
section
namespace Go.Proofs.Ytobbepmlmbbamaa
open Go Go.RowKit
theorem pF_any (n u0 u1 gn gf t : Nat) (s : Int) (w : World) (hs : s = t) (ht : t < 4) (hn : n ≤ 64) (hu : u0 < 4) (h1 : Row w gn 3 [.int .i64 (n : Int)]) (h2 : Row w gf 86 [.int .i64 (u0 : Int), .int .i64 (u1 : Int)]) :
 Calls Try.prog 86 #[.int .i64 s, .pointer (some ⟨gn, 0, none⟩), .pointer (some ⟨gf, 0, none⟩)] w fun e w' => e = .returned (.int .i64 (plc n u0 t : Nat)) ∧ w' = w := by
 subst hs
 have c0:=h1.cell (i := 0) (by simp)
 obtain ⟨a0, a1, a2⟩ := box2 h2
 simp only [List.getElem_cons_zero] at c0
 go_enter Try.func86, Try.ntmps86
 go_wp2_with fail
 refine (place_any n u0 t _ (by omega) hu ht).mono ?_
 rintro e w1 ⟨rfl, rfl⟩
 go_wp2
 go_ret
 exact ⟨rfl, rfl⟩
theorem qF_any (n u0 u1 gn gf t : Nat) (s : Int) (w : World) (hs : s = t) (ht : t < 4) (hn : n ≤ 64) (hu : u1 < 4) (h1 : Row w gn 3 [.int .i64 (n : Int)]) (h2 : Row w gf 86 [.int .i64 (u0 : Int), .int .i64 (u1 : Int)]) :
 Calls Try.prog 88 #[.int .i64 s, .pointer (some ⟨gn, 0, none⟩), .pointer (some ⟨gf, 0, none⟩)] w fun e w' => e = .returned (.int .i64 (plc (n + 1) u1 t : Nat)) ∧ w' = w := by
 subst hs
 have c0:=h1.cell (i := 0) (by simp)
 obtain ⟨a0, a1, a2⟩ := box2 h2
 simp only [List.getElem_cons_zero] at c0
 have e1 : ((n + 1 : Nat) : Int).toNat = n + 1:=by omega
 go_enter Try.func88, Try.ntmps88
 clear e1
 go_wp2_with fail
 refine (place_i ((n : Int) + 1) (u1 : Int) (t : Int) _ (by omega) (by omega) (by omega)).mono ?_
 rintro e w1 ⟨rfl, rfl⟩
 go_wp2
 go_ret
 exact ⟨rfl, rfl⟩
theorem row_far {W : World} {g t : Nat} {vs : List Value} {base : Nat} {v : Value} {n : Nat} {xs : List Value} (h : Row W g t vs) (ht : t ≠ 3) (ho : W.ownsRow base 3 1 v n xs) : some g ≠ v.ownBlock := by
 intro e
 obtain ⟨cs, fr, h3⟩ := ownsRow_block ho g e.symm
 rw [h] at h3
 injection h3 with h3
 injection h3 with _ h4
 exact ht h4
def leadM (d : Pl.Dg) (mt : List Nat) (x : Int) (i o : Nat) : List Nat := if x < 0 then jn mt i o else jn (jn mt x.toNat i) o (d.m x.toNat)
structure PK (w : World) (gd gn gr gf g1 c1 n1 g2 c2 n2 base n u0 u1 : Nat) (s5 m5 dv ss : List Value) (lpr : Int) (mt : List Nat) (W : World) : Prop where
 s : Row W w.heap.size 64 s5
 m : Row W (w.heap.size + 1) 28 m5
 rd : ∃ vs, Row W (w.heap.size + 1 + 1) 24 vs ∧ vs.length = 3
 rm : ∃ us, Row W (w.heap.size + 1 + 1 + 1) 28 us ∧ us.length = 5
 d : Row W gd 24 dv
 nb : Row W gn 3 [.int .i64 (n : Int)]
 f : Row W gf 86 [.int .i64 (u0 : Int), .int .i64 (u1 : Int)]
 r : Row W gr 24 [.slice (some ⟨g1, 0, none⟩) n1 c1, .slice (some ⟨g2, 0, none⟩) n2 c2, .int .i64 lpr]
 o1 : W.ownsRow base 3 1 (.slice (some ⟨g1, 0, none⟩) n1 c1) n1 ss
 o2 : OwnN W base g2 n2 c2 mt
 ne : g1 ≠ g2
 bel : Below w.heap.size w W
 a1 : w.heap.size + 1 + 1 + 1 < gd
 a2 : w.heap.size + 1 + 1 + 1 < gn
 a3 : w.heap.size + 1 + 1 + 1 < gr
 a5 : gn < base
 a6 : gr ≠ gd
section
variable {w : World} {gd gn gr gf g1 c1 n1 g2 c2 n2 base n u0 u1 : Nat} {s5 m5 dv ss : List Value} {lpr : Int} {mt : List Nat} {W W2 : World}
theorem PK.drew (h : PK w gd gn gr gf g1 c1 n1 g2 c2 n2 base n u0 u1 s5 m5 dv ss lpr mt W) : PK w gd gn gr gf g1 c1 n1 g2 c2 n2 base n u0 u1 s5 m5 dv ss lpr mt W.drew :=
 ⟨h.s, h.m, h.rd, h.rm, h.d, h.nb, h.f, h.r, h.o1, h.o2, h.ne, h.bel.drew, h.a1, h.a2, h.a3, h.a5, h.a6⟩
theorem PK.cast (h : PK w gd gn gr gf g1 c1 n1 g2 c2 n2 base n u0 u1 s5 m5 dv ss lpr mt W) (e : W2 = W) : PK w gd gn gr gf g1 c1 n1 g2 c2 n2 base n u0 u1 s5 m5 dv ss lpr mt W2 := e ▸ h
theorem PK.lob (h : PK w gd gn gr gf g1 c1 n1 g2 c2 n2 base n u0 u1 s5 m5 dv ss lpr mt W) (hn2 : 0 < n2) : base ≤ g2 ∧ g2 < W.heap.size := by
 obtain ⟨g, e, h1, h2⟩ := owns_pos hn2 h.o2
 injection e with e
 injection e with e
 subst e
 exact ⟨h1, h2⟩
theorem PK.join {mt' : List Nat} (h : PK w gd gn gr gf g1 c1 n1 g2 c2 n2 base n u0 u1 s5 m5 dv ss lpr mt W) (own : OwnN W2 base g2 n2 c2 mt') (gw : W.grownBy W2 (some g2)) : PK w gd gn gr gf g1 c1 n1 g2 c2 n2 base n u0 u1 s5 m5 dv ss lpr mt' W2 := by
 have f1 : ∀ {g : Nat} {t : TypeId} {vs : List Value}, t ≠ 3 → Row W g t vs → Row W2 g t vs:=fun ht hr => hr.grown gw (row_far hr ht h.o2)
 have hb : ∀ k, some g2 = some k → w.heap.size ≤ k:=fun k hk => by
  injection hk with hk
  have h1:=h.a5
  have h2:=h.a2
  have h3:=World.ownsRow.lt h.o2 g2 rfl
  omega
 obtain ⟨vs, r1, l1⟩ := h.rd
 obtain ⟨us, r2, l2⟩ := h.rm
 refine ⟨f1 (by decide) h.s, f1 (by decide) h.m, ⟨vs, f1 (by decide) r1, l1⟩, ⟨us, f1 (by decide) r2, l2⟩, f1 (by decide) h.d, h.nb.grown gw ?_, f1 (by decide) h.f, f1 (by decide) h.r, own_grown h.o1 gw h.ne, own, h.ne, h.bel.grown gw h.bel.size hb, h.a1, h.a2, h.a3, h.a5, h.a6⟩
 intro e
 injection e with e
 have h1:=h.a5
 have h3:=World.ownsRow.lt h.o2 g2 rfl
 omega
theorem PK.loops (h : PK w gd gn gr gf g1 c1 n1 g2 c2 n2 base n u0 u1 s5 m5 dv ss lpr mt W) (v : Int) : PK w gd gn gr gf g1 c1 n1 g2 c2 n2 base n u0 u1 s5 m5 dv ss v mt (W.setCell ⟨gr, 2, none⟩ (.int .i64 v)) := by
 have h3:=h.a3
 have e1:=row_far h.r (by decide) h.o1
 have e2:=row_far h.r (by decide) h.o2
 have e3 : gn ≠ gr:=fun e => by
  have h5:=h.nb
  rw [e] at h5
  have h6:=h.r
  unfold Row at h5 h6
  rw [h5] at h6
  injection h6 with h6
  injection h6 with _ h7
  exact absurd h7 (by decide)
 have e4 : gf ≠ gr:=fun e => by
  have h5:=h.f
  rw [e] at h5
  have h6:=h.r
  unfold Row at h5 h6
  rw [h5] at h6
  injection h6 with h6
  injection h6 with _ h7
  exact absurd h7 (by decide)
 obtain ⟨vs, r1, l1⟩ := h.rd
 obtain ⟨us, r2, l2⟩ := h.rm
 refine ⟨h.s.other (by show _ ≠ gr; omega) _, h.m.other (by show _ ≠ gr; omega) _, ⟨vs, r1.other (by show _ ≠ gr; omega) _, l1⟩, ⟨us, r2.other (by show _ ≠ gr; omega) _, l2⟩, h.d.other (by show _ ≠ gr; exact Ne.symm h.a6) _, h.nb.other e3 _, h.f.other e4 _, h.r.set 2 _, own_set h.o1 (fun e => e1 (by rw [e]; rfl)), own_set h.o2 (fun e => e2 (by rw [e]; rfl)), h.ne, h.bel.setCell (by show _ ≤ gr; omega) _, h.a1, h.a2, h.a3, h.a5, h.a6⟩
end
set_option maxRecDepth 100000 in
set_option maxHeartbeats 2000000 in
theorem lead_any (d : Pl.Dg) (hd : Pl.Wf d) (A B : Option Addr) (cp cq m i o : Nat) (gd gn gr gf g1 c1 n1 g2 c2 n2 base n u0 u1 : Nat) (s5 m5 ss : List Value) (x lp : Int) (mt : List Nat) (w W : World) (hm : m = 4 * d.n) (hg : DgAt w A B d) (hx : x < 4 * (d.n : Int)) (hlp : -10 ≤ lp ∧ lp ≤ 1000)
 (hp : PK w gd gn gr gf g1 c1 n1 g2 c2 n2 base n u0 u1 s5 m5 [.slice A d.n cp, .slice B m cq, .int .i64 (d.lp : Int)] ss lp mt W) (hi : i < n2) (hoo : o < n2) (hmn : m ≤ n2) (hn : n2 ≤ 1000) :
 Calls Try.prog 89 #[.int .i64 x, .int .i64 (i : Int), .int .i64 (o : Int), .pointer (some ⟨gr, 0, none⟩), .pointer (some ⟨gd, 0, none⟩)] W fun e w' => e = .returned (.tuple #[]) ∧ PK w gd gn gr gf g1 c1 n1 g2 c2 n2 base n u0 u1 s5 m5 [.slice A d.n cp, .slice B m cq, .int .i64 (d.lp : Int)] ss (if x < 0 then lp - 1 else lp) (leadM d mt x i o) w' := by
 have HM:=hide hm
 have HG:=hide hg
 have HP:=hide hp
 clear hm hg hp
 obtain ⟨r0, r1, r2, r3⟩ := box3 HP.out.r
 obtain ⟨d0, d1, d2, d3⟩ := box3 HP.out.d
 by_cases hx0 : x < 0
 ·have HE:=hide (show leadM d mt x i o = jn mt i o by unfold leadM; rw [if_pos hx0])
  go_enter Try.func89, Try.ntmps89
  go_wp2_with fail
  refine (join_any base g2 n2 c2 i o mt _ HP.out.o2 hi hoo (by omega)).mono ?_
  rintro e w1 ⟨rfl, own1, gr1⟩
  have HP1:=hide (HP.out.join own1 gr1)
  clear own1 gr1 r0 r1 r2 r3 d0 d1 d2 d3
  obtain ⟨r0, r1, r2, r3⟩ := box3 HP1.out.r
  go_wp2
  refine bodyPost_ret (results_none rfl _ _ _) rfl ?_
  refine ⟨rfl, ?_⟩
  rw [HE.out]
  exact HP1.out.loops _
 ·obtain ⟨q, rfl⟩ := Int.eq_ofNat_of_zero_le (show 0 ≤ x by omega)
  have HE:=hide (show leadM d mt (q : Int) i o = jn (jn mt q i) o (d.m q) by unfold leadM; rw [if_neg (by omega), Int.toNat_natCast])
  have hq : q < 4 * d.n:=by omega
  have hqm : q < m:=by have := HM.out; omega
  have iq : (0 : Int) ≤ (q : Int):=by omega
  have jq : (q : Int) < (m : Int):=by omega
  have hmq:=hd.lt q hq
  have hmq2 : d.m q < n2:=by have := HM.out; omega
  go_enter Try.func89, Try.ntmps89
  go_wp2_with fail
  refine (join_any base g2 n2 c2 q i mt _ HP.out.o2 (by omega) hi (by omega)).mono ?_
  rintro e w1 ⟨rfl, own1, gr1⟩
  have HP1:=hide (HP.out.join own1 gr1)
  clear own1 gr1 r0 r1 r2 r3 d0 d1 d2 d3
  obtain ⟨r0, r1, r2, r3⟩ := box3 HP1.out.r
  obtain ⟨d0, d1, d2, d3⟩ := box3 HP1.out.d
  have HG1:=hide (HG.out.keep HP1.out.bel)
  obtain ⟨mb, mo, rfl, cm⟩ := mate_at HG1.out.m hq
  obtain ⟨u, hu⟩ : ∃ u, u = d.m q := ⟨_, rfl⟩
  rw [← hu] at cm hmq2
  have HU:=hide hu
  clear hu hmq
  go_upto_region 4 with fail
  go_still_tail 8, (by kernel_rfl)
  change wpList _ _ _ _ _ w1.drew
  obtain ⟨W6, hW6⟩ : ∃ W6 : World, W6 = w1.drew := ⟨_, rfl⟩
  rw [← hW6]
  have HP6:=hide (HP1.out.drew.cast hW6)
  clear hW6 r0 r1 r2 r3 d0 d1 d2 d3 cm
  go_wp2_with fail
  refine (join_any base g2 n2 c2 o u _ W6 HP6.out.o2 hoo hmq2 (by omega)).mono ?_
  rintro e w7 ⟨rfl, own7, gr7⟩
  have HP7:=hide (HP6.out.join own7 gr7)
  clear own7 gr7
  go_wp2
  go_end0
  refine ⟨rfl, ?_⟩
  first
   | (rw [HE.out, ← HU.out]; exact HP7.out)
   | (rw [if_neg (show ¬ ((q : Int) < 0) by omega), HE.out, ← HU.out]; exact HP7.out)
end Go.Proofs.Ytobbepmlmbbamaa
end
section
namespace Go.Proofs.Ytobbepmlmbbamaa
open Go Go.RowKit
def needP (x y sg : Int) : Nat := (if x < 0 then 1 else 0) + (if y < 0 ∧ sg = 0 then 1 else 0)
def pkC (d : Pl.Dg) (F P : List Nat) (x y sg : Int) : Int :=
 if d.lp < needP x y sg then 6 else if 0 ≤ x ∧ 0 ≤ y ∧ x ≠ y ∧ nearB F P d x.toNat y.toNat = false then 6 else if 64 < d.n + 2 then 5 else 0
def PkPost (d : Pl.Dg) (F P : List Nat) (x y sg : Int) (w : World) (e : Ending) (w' : World) : Prop := e = .returned (.int .i64 (pkC d F P x y sg)) ∧ Below w.heap.size w w'
set_option maxRecDepth 100000 in
set_option maxHeartbeats 2000000 in
theorem pokeable_any (d : Pl.Dg) (F P : List Nat) (A B L R : Option Addr) (cp cq cl cr m : Nat) (k x y sg : Int) (ov : Bool) (w : World) (hm : m = 4 * d.n) (hs : ShAt w A B L R d F P) (hn : d.n ≤ 64) (hlp : d.lp ≤ 64) (hx : -2 ≤ x ∧ x < 4 * d.n) (hy : -2 ≤ y ∧ y < 4 * d.n) :
 Calls Try.prog 84 #[sheetV A B L R d.n m d.lp cp cq cl cr, .agg #[.int .i64 k, .int .i64 x, .int .i64 y, .int .i64 sg, .bool ov]] w (PkPost d F P x y sg w) := by
 unfold sheetV
 obtain ⟨W, hW⟩ : ∃ W, W = (w.alloc (.cells #[.slice A d.n cp, .slice B m cq, .int .i64 d.lp, .slice L m cl, .slice R d.n cr] 64)).alloc (.cells #[.int .i64 k, .int .i64 x, .int .i64 y, .int .i64 sg, .bool ov] 28) := ⟨_, rfl⟩
 have BX:=hide (show Row W w.heap.size 64 [.slice A d.n cp, .slice B m cq, .int .i64 d.lp, .slice L m cl, .slice R d.n cr] by rw [hW]; exact (Row.new w _ [_, _, _, _, _]).alloc _)
 have BM:=hide (show Row W (w.heap.size + 1) 28 [.int .i64 k, .int .i64 x, .int .i64 y, .int .i64 sg, .bool ov] by rw [hW]; exact row_at (vs := [_, _, _, _, _]) (by simp))
 have B0:=hide (show Below w.heap.size w W by rw [hW]; exact ((Below.refl _ _).alloc (Nat.le_refl _) _).alloc (by simp) _)
 have HS:=hide (hs.keep B0.out)
 have HM:=hide hm
 have HW:=hide hW
 clear hs hW hm
 go_enter Try.func84, Try.ntmps84
 go_upto_region 2 with (fail)
 rw [← HW.out]
 obtain ⟨f0, f1, f2, f3, f4, f5⟩ := box5 BX.out
 obtain ⟨m0, m1, m2, m3, m4, m5⟩ := box5 BM.out
 by_cases hx0 : 0 ≤ x <;> by_cases hy0 : 0 ≤ y
 ·obtain ⟨a, rfl⟩ := Int.eq_ofNat_of_zero_le hx0
  obtain ⟨b, rfl⟩ := Int.eq_ofNat_of_zero_le hy0
  have t1 : decide ((d.lp : Int) < 0) = false:=by simp
  have HN:=hide (show ∀ a b : Nat, needP (a : Int) (b : Int) sg = 0 from fun a b => by unfold needP; rw [if_neg (by omega), if_neg (by omega)])
  by_cases hab : a = b
  ·subst hab
   go_wp2
   all_goals
    go_ret
    refine ⟨ret_int ?_, B0.out⟩
    unfold pkC
    rw [HN.out, if_neg (by omega), if_neg (by simp)]
    first | rw [if_pos (by omega)] | rw [if_neg (by omega)]
  ·have t2 : ((a : Int) != (b : Int)) = true:=by rw [bne_iff_ne]; omega
   go_wp2_with fail
   refine (near_any d F P A B L R cp cq cl cr m a b _ HM.out HS.out hn (by omega) (by omega)).mono ?_
   rintro e w1 ⟨rfl, hb1⟩
   have B1:=hide (B0.out.trans (hb1.mono B0.out.size))
   obtain ⟨q0, q1, q2, q3, q4, q5⟩ := box5 (BX.out.below hb1)
   clear hb1
   cases hnb : nearB F P d a b with
   | true =>
     have HNB:=hide hnb
     clear hnb
     go_wp2
     all_goals
      go_ret
      refine ⟨ret_int ?_, B1.out⟩
      unfold pkC
      rw [HN.out, if_neg (by omega), if_neg (by simp [HNB.out])]
      first | rw [if_pos (by omega)] | rw [if_neg (by omega)]
   | false =>
     have HNB:=hide hnb
     clear hnb
     go_wp2
     all_goals
      go_ret
      refine ⟨ret_int ?_, B1.out⟩
      unfold pkC
      rw [HN.out, if_neg (by omega), if_pos ⟨by omega, by omega, by omega, by simpa using HNB.out⟩]
 all_goals
  by_cases hs0 : sg = 0
  all_goals
   go_wp2
   all_goals
    go_ret
    refine ⟨ret_int ?_, B0.out⟩
    unfold pkC needP
    simp only [ne_eq, beq_iff_eq, beq_eq_false_iff_ne, and_true] at *
    repeat' split
    all_goals omega
end Go.Proofs.Ytobbepmlmbbamaa
end
section
namespace Go.Proofs.Ytobbepmlmbbamaa
open Go Go.RowKit
attribute [local go_sem ↓] Go.wp_at_zero Go.wp_at_succ
theorem RowT.drew {w : World} {t : TypeId} {A : Option Addr} {n : Nat} {xs : List Value} (h : RowT w t A n xs) : RowT w.drew t A n xs := h
structure PB (w : World) (s5 m5 : List Value) (W : World) : Prop where
 s : Row W w.heap.size 64 s5
 m : Row W (w.heap.size + 1) 28 m5
 rd : ∃ vs, Row W (w.heap.size + 1 + 1) 24 vs ∧ vs.length = 3
 rm : ∃ us, Row W (w.heap.size + 1 + 1 + 1) 28 us ∧ us.length = 5
 bel : Below w.heap.size w W
section
variable {w W W' : World} {s5 m5 : List Value}
theorem PB.drew (h : PB w s5 m5 W) : PB w s5 m5 W.drew := ⟨h.s, h.m, h.rd, h.rm, h.bel.drew⟩
theorem PB.below (h : PB w s5 m5 W) (hb : Below W.heap.size W W') : PB w s5 m5 W' :=
 let ⟨vs, r1, l1⟩ := h.rd
 let ⟨us, r2, l2⟩ := h.rm
 ⟨h.s.below hb, h.m.below hb, ⟨vs, r1.below hb, l1⟩, ⟨us, r2.below hb, l2⟩, h.bel.trans (hb.mono h.bel.size)⟩
theorem PB.alloc (h : PB w s5 m5 W) (o : Obj) : PB w s5 m5 (W.alloc o) := h.below ((Below.refl _ _).alloc (Nat.le_refl _) o)
theorem PB.big (h : PB w s5 m5 W) : w.heap.size + 1 + 1 + 1 < W.heap.size := let ⟨_, r2, _⟩ := h.rm; r2.lt
theorem PB.start (w : World) (a b c d e y0 y1 y2 y3 y4 : Value) : PB w [a, b, c, d, e] [y0, y1, y2, y3, y4] ((((w.alloc (.cells #[a, b, c, d, e] 64)).alloc (.cells #[y0, y1, y2, y3, y4] 28)).alloc (.cells #[.slice none 0 0, .slice none 0 0, .int .i64 0] 24)).alloc (.cells #[.int .i64 0, .int .i64 0, .int .i64 0, .int .i64 0, .bool false] 28)) := by
 refine ⟨(((row_at (vs := [a, b, c, d, e]) rfl).alloc _).alloc _).alloc _, ((row_at (vs := [y0, y1, y2, y3, y4]) (by simp)).alloc _).alloc _, ⟨[.slice none 0 0, .slice none 0 0, .int .i64 0], (row_at (vs := [.slice none 0 0, .slice none 0 0, .int .i64 0]) (by simp)).alloc _, rfl⟩, ⟨[.int .i64 0, .int .i64 0, .int .i64 0, .int .i64 0, .bool false], row_at (vs := [.int .i64 0, .int .i64 0, .int .i64 0, .int .i64 0, .bool false]) (by simp), rfl⟩, ?_⟩
 exact ((((Below.refl _ _).alloc (Nat.le_refl _) _).alloc (by simp) _).alloc (by simp; omega) _).alloc (by simp; omega) _
end
section
variable {w : World} {gd gn gr gf g1 c1 n1 g2 c2 n2 base n u0 u1 : Nat} {s5 m5 dv ss : List Value} {lpr : Int} {mt : List Nat} {W W2 : World}
end
def pP (d : Pl.Dg) (x y : Int) (ov : Bool) (t : Nat) : Nat := plc d.n (un0 d x y ov) t
def pQ (d : Pl.Dg) (x y : Int) (ov : Bool) (t : Nat) : Nat := plc (d.n + 1) (un1 d x y ov) t
def pk0 (d : Pl.Dg) (x y : Int) (ov : Bool) : List Nat := jn (jn (d.mt ++ List.replicate 8 0) (pP d x y ov 1) (pQ d x y ov 1)) (pQ d x y ov 2) (pP d x y ov 0)
def pkM (d : Pl.Dg) (x y sg : Int) (ov : Bool) : List Nat :=
 if sg ≠ 0 ∧ x < 0 then jn (jn (pk0 d x y ov) (pQ d x y ov 3) (pQ d x y ov 0)) (pP d x y ov 2) (pP d x y ov 3)
 else if sg = 1 then jn (jn (jn (pk0 d x y ov) x.toNat (pP d x y ov 3)) (pQ d x y ov 3) (pQ d x y ov 0)) (pP d x y ov 2) (d.m x.toNat)
 else if sg = -1 then jn (jn (jn (pk0 d x y ov) x.toNat (pQ d x y ov 0)) (pP d x y ov 2) (pP d x y ov 3)) (pQ d x y ov 3) (d.m x.toNat)
 else leadM d (leadM d (pk0 d x y ov) y (pQ d x y ov 0) (pP d x y ov 2)) x (pP d x y ov 3) (pQ d x y ov 3)
def pkL (d : Pl.Dg) (x y sg : Int) : Int := if sg ≠ 0 ∧ x < 0 then (d.lp : Int) - 1 else if sg = 0 then (if x < 0 then (if y < 0 then (d.lp : Int) - 1 else d.lp) - 1 else (if y < 0 then (d.lp : Int) - 1 else d.lp)) else d.lp
def pkD (d : Pl.Dg) (x y sg : Int) (ov : Bool) : Pl.Dg := ⟨d.sg ++ [sgn2 (un0 d x y ov) (ov0 d x y ov), sgn2 (un1 d x y ov) (ov1 d x y ov)], pkM d x y sg ov, (pkL d x y sg).toNat⟩
def PokePost (d : Pl.Dg) (F P : List Nat) (x y sg : Int) (ov : Bool) (w : World) (e : Ending) (w' : World) : Prop :=
 (pkC d F P x y sg ≠ 0 → ResErr (pkC d F P x y sg) e) ∧ (pkC d F P x y sg = 0 → ResOk (pkD d x y sg ov) ⟨4, d.n, d.n + 1, 0, false⟩ e w') ∧ Below w.heap.size w w'
set_option maxRecDepth 100000 in
set_option maxHeartbeats 4000000 in
theorem poke_any (d : Pl.Dg) (hd : Pl.Wf d) (F P : List Nat) (A B L R : Option Addr) (cp cq cl cr m : Nat) (k x y sg : Int) (ov : Bool) (w : World) (hm : m = 4 * d.n) (hs : ShAt w A B L R d F P) (hx : -2 ≤ x ∧ x < 4 * d.n) (hy : -2 ≤ y ∧ y < 4 * d.n)
 (hsg : sg = 0 ∨ sg = 1 ∨ sg = -1) (hneg : sg = -1 → 0 ≤ x) :
 Calls Try.prog 49 #[sheetV A B L R d.n m d.lp cp cq cl cr, .agg #[.int .i64 k, .int .i64 x, .int .i64 y, .int .i64 sg, .bool ov]] w (PokePost d F P x y sg ov w) := by
 unfold sheetV
 have hn:=hd.few
 have hlp:=hd.lp
 have HM:=hide hm
 have HS:=hide hs
 have hm2 : m ≤ 256:=by omega
 clear hm hs
 have PB0:=hide (PB.start w (.slice A d.n cp) (.slice B m cq) (.int .i64 (d.lp : Int)) (.slice L m cl) (.slice R d.n cr) (.int .i64 k) (.int .i64 x) (.int .i64 y) (.int .i64 sg) (.bool ov))
 go_enter Try.func49, Try.ntmps49
 go_wp2_with fail
 refine (pokeable_any d F P A B L R cp cq cl cr m k x y sg ov _ HM.out (HS.out.keep PB0.out.bel) hn hlp hx hy).mono ?_
 rintro e w1 ⟨rfl, hb1⟩
 have PB1:=hide (PB0.out.below hb1)
 clear hb1 PB0
 by_cases hC : pkC d F P x y sg = 0
 ·have HC:=hide hC
  rw [hC]
  clear hC
  obtain ⟨s0, s1, s2, s3, s4, s5⟩ := box5 PB1.out.s
  obtain ⟨m0, m1, m2', m3, m4, m5⟩ := box5 PB1.out.m
  have hbig:=PB1.out.big
  have q1 : w.heap.size < w1.heap.size:=by omega
  go_upto_region 4 with fail
  go_cut [8, 9] (fun s8 s9 wx => ∃ gd gn : Nat, s8 = .pointer (some ⟨gd, 0, none⟩) ∧ s9 = .pointer (some ⟨gn, 0, none⟩) ∧ PB w [.slice A d.n cp, .slice B m cq, .int .i64 (d.lp : Int), .slice L m cl, .slice R d.n cr] [.int .i64 k, .int .i64 x, .int .i64 y, .int .i64 sg, .bool ov] wx ∧ Row wx gd 24 [.slice A d.n cp, .slice B m cq, .int .i64 (d.lp : Int)] ∧ Row wx gn 3 [.int .i64 (d.n : Int)] ∧ w.heap.size + 1 + 1 + 1 < gd ∧ w.heap.size + 1 + 1 + 1 < gn)
  case first =>
   go_region
   all_goals (go_wp2_with fail; go_meet)
   ·exact ⟨w1.heap.size, w1.heap.size + 1, rfl, rfl, ((PB1.out.alloc _).alloc _).drew, ((row_at (vs := [.slice A d.n cp, .slice B m cq, .int .i64 (d.lp : Int)]) rfl).alloc _).drew, (row_at (vs := [.int .i64 (d.n : Int)]) (by simp)).drew, by omega, by omega⟩
   ·exact ⟨w1.heap.size + 1, w1.heap.size, rfl, rfl, ((PB1.out.alloc _).alloc _).drew, (row_at (vs := [.slice A d.n cp, .slice B m cq, .int .i64 (d.lp : Int)]) (by simp)).drew, ((row_at (vs := [.int .i64 (d.n : Int)]) rfl).alloc _).drew, by omega, by omega⟩
  case rest =>
   obtain ⟨gd, gn, rfl, rfl, hpb, hrd, hrn, hgd, hgn⟩ := hcut
   have PB2:=hide hpb
   have RD2:=hide hrd
   have RN2:=hide hrn
   clear s0 s1 s2 s3 s4 s5 m0 m1 m2' m3 m4 m5 hpb hrd hrn q1 hbig PB1
   obtain ⟨m0, m1, m2', m3, m4, m5⟩ := box5 PB2.out.m
   obtain ⟨d0, d1, d2, d3⟩ := box3 RD2.out
   have hgn2:=RN2.out.lt
   have hgd2:=RD2.out.lt
   have HS2:=hide (HS.out.keep PB2.out.bel)
   go_wp2_with fail
   refine (raised_any d hd A B cp cq m k x y sg ov _ HM.out HS2.out.dg hx.2 hy.2).mono ?_
   rintro e w3 ⟨g1, c1, g2, c2, rfl, own1, own2, hne, hb3⟩
   have u04 : un0 d x y ov < 4:=by unfold un0 lnS th0; (repeat' split) <;> omega
   have u14 : un1 d x y ov < 4:=by unfold un1 lnS th1; (repeat' split) <;> omega
   obtain ⟨u0, hu0⟩ : ∃ u0, u0 = un0 d x y ov := ⟨_, rfl⟩
   obtain ⟨u1, hu1⟩ : ∃ u1, u1 = un1 d x y ov := ⟨_, rfl⟩
   have EP:=hide (show ∀ t, plc d.n u0 t = pP d x y ov t from fun t => by unfold pP; rw [hu0])
   have EQ:=hide (show ∀ t, plc (d.n + 1) u1 t = pQ d x y ov t from fun t => by unfold pQ; rw [hu1])
   rw [← hu0] at u04 ⊢
   rw [← hu1] at u14 ⊢
   clear hu0 hu1
   obtain ⟨n2, hn2⟩ : ∃ n2, n2 = 4 * d.n + 8 := ⟨_, rfl⟩
   rw [← hn2] at own2 ⊢
   have hlp1 : (0 : Int) ≤ (d.lp : Int) ∧ (d.lp : Int) ≤ 64:=by omega
   have HN2:=hide hn2
   clear hn2
   obtain ⟨base, hbase⟩ : ∃ base, base = wc.heap.size := ⟨_, rfl⟩
   rw [← hbase] at own1 own2
   have OWN1:=hide own1
   have OWN2:=hide own2
   have HB:=hide hbase
   have HNE:=hide hne
   have B3:=hide hb3
   clear own1 own2 hbase hne hb3
   go_wp2_with fail
   obtain ⟨V3, hV3⟩ : ∃ V3 : World, V3 = (w3.alloc (.cells #[.slice (some ⟨g1, 0, none⟩) (d.n + 2) c1, .slice (some ⟨g2, 0, none⟩) n2 c2, .int .i64 (d.lp : Int)] 24)).alloc (.cells #[.int .i64 (u0 : Int), .int .i64 (u1 : Int)] 86) := ⟨_, rfl⟩
   rw [← hV3]
   obtain ⟨gr, hgr⟩ : ∃ gr, gr = w3.heap.size := ⟨_, rfl⟩
   rw [← hgr]
   obtain ⟨gf, hgf⟩ : ∃ gf, gf = gr + 1 := ⟨_, rfl⟩
   rw [← hgf]
   have hsz3:=B3.out.size
   have HP3:=hide (show PK w gd gn gr gf g1 c1 (d.n + 2) g2 c2 n2 base d.n u0 u1 [.slice A d.n cp, .slice B m cq, .int .i64 (d.lp : Int), .slice L m cl, .slice R d.n cr] [.int .i64 k, .int .i64 x, .int .i64 y, .int .i64 sg, .bool ov] [.slice A d.n cp, .slice B m cq, .int .i64 (d.lp : Int)] ((d.sg ++ [sgn2 (un0 d x y ov) (ov0 d x y ov), sgn2 (un1 d x y ov) (ov1 d x y ov)]).map (.int .i64)) (d.lp : Int) (d.mt ++ List.replicate 8 0) V3 by
    have hb : wc.heap.size = base:=HB.out.symm
    have PB3:=(((PB2.out.below B3.out).alloc (.cells #[.slice (some ⟨g1, 0, none⟩) (d.n + 2) c1, .slice (some ⟨g2, 0, none⟩) n2 c2, .int .i64 (d.lp : Int)] 24)).alloc (.cells #[.int .i64 (u0 : Int), .int .i64 (u1 : Int)] 86))
    rw [← hV3] at PB3
    rw [hV3] at PB3 ⊢
    exact ⟨PB3.s, PB3.m, PB3.rd, PB3.rm, ((RD2.out.below B3.out).alloc _).alloc _, ((RN2.out.below B3.out).alloc _).alloc _, row_at (vs := [.int .i64 (u0 : Int), .int .i64 (u1 : Int)]) (by rw [hgf, hgr]; simp), Row.alloc (row_at (vs := [.slice (some ⟨g1, 0, none⟩) (d.n + 2) c1, .slice (some ⟨g2, 0, none⟩) n2 c2, .int .i64 (d.lp : Int)]) hgr) _,
     World.ownsRow.alloc (World.ownsRow.alloc OWN1.out _) _, OwnN.alloc (OwnN.alloc OWN2.out _) _, HNE.out, PB3.bel, hgd, hgn, by omega, by omega, by omega⟩)
   clear hV3 hgf hgr hsz3 m0 m1 m2' m3 m4 m5 d0 d1 d2 d3 PB2 RD2 RN2 B3 OWN1 OWN2 hgn2 hgd2
   obtain ⟨r0, r1, r2, r3⟩ := box3 HP3.out.r
   refine wp_region_still_tail 6 (by kernel_rfl) (by kernel_rfl) ?_
   simp only [List.take_succ_cons, List.take_zero, List.drop_succ_cons, List.drop_zero]
   repeat still_step
   still_call (pF_any d.n u0 u1 gn gf 1 1 _ rfl (by omega) hn u04 HP3.out.drew.nb HP3.out.drew.f)
   repeat still_step
   still_call (qF_any d.n u0 u1 gn gf 1 1 _ rfl (by omega) hn u14 HP3.out.drew.nb HP3.out.drew.f)
   repeat still_step
   try refine wpStill_nil ?_
   change wpList _ _ _ _ _ V3.drew
   obtain ⟨X3, hX⟩ : ∃ X : World, X = V3.drew := ⟨_, rfl⟩
   rw [← hX]
   have HX3:=hide (HP3.out.drew.cast hX)
   clear hX r0 r1 r2 r3
   go_wp2_with fail
   refine (join_any base g2 n2 c2 (plc d.n u0 1) (plc (d.n + 1) u1 1) _ X3 HX3.out.o2 (by have := HN2.out; first | omega | (unfold plc; omega)) (by have := HN2.out; first | omega | (unfold plc; omega)) (by have := HN2.out; omega)).mono ?_
   rintro e V4 ⟨rfl, own5, gr5⟩
   have HP4:=hide (HX3.out.join own5 gr5)
   clear own5 gr5
   obtain ⟨r0, r1, r2, r3⟩ := box3 HP4.out.r
   go_upto_region 9 with fail
   refine wp_region_still_tail 6 (by kernel_rfl) (by kernel_rfl) ?_
   simp only [List.take_succ_cons, List.take_zero, List.drop_succ_cons, List.drop_zero]
   repeat still_step
   still_call (qF_any d.n u0 u1 gn gf 2 2 _ rfl (by omega) hn u14 HP4.out.drew.nb HP4.out.drew.f)
   repeat still_step
   still_call (pF_any d.n u0 u1 gn gf 0 0 _ rfl (by omega) hn u04 HP4.out.drew.nb HP4.out.drew.f)
   repeat still_step
   try refine wpStill_nil ?_
   change wpList _ _ _ _ _ V4.drew
   obtain ⟨X4, hX⟩ : ∃ X : World, X = V4.drew := ⟨_, rfl⟩
   rw [← hX]
   have HX4:=hide (HP4.out.drew.cast hX)
   clear hX r0 r1 r2 r3
   go_wp2_with fail
   refine (join_any base g2 n2 c2 (plc (d.n + 1) u1 2) (plc d.n u0 0) _ X4 HX4.out.o2 (by have := HN2.out; first | omega | (unfold plc; omega)) (by have := HN2.out; first | omega | (unfold plc; omega)) (by have := HN2.out; omega)).mono ?_
   rintro e V5 ⟨rfl, own5, gr5⟩
   have HP5:=hide (HX4.out.join own5 gr5)
   clear own5 gr5
   obtain ⟨m0, m1, m2', m3, m4, m5⟩ := box5 HP5.out.m
   go_upto_block 0 with fail
   go_cut [14] (fun _ wx => PK w gd gn gr gf g1 c1 (d.n + 2) g2 c2 n2 base d.n u0 u1 [.slice A d.n cp, .slice B m cq, .int .i64 (d.lp : Int), .slice L m cl, .slice R d.n cr] [.int .i64 k, .int .i64 x, .int .i64 y, .int .i64 sg, .bool ov] [.slice A d.n cp, .slice B m cq, .int .i64 (d.lp : Int)] ((d.sg ++ [sgn2 (un0 d x y ov) (ov0 d x y ov), sgn2 (un1 d x y ov) (ov1 d x y ov)]).map (.int .i64)) (pkL d x y sg) (pkM d x y sg ov) wx)
   case first =>
    rcases hsg with rfl | rfl | rfl
    ·-- no sign: two strands
     go_upto_region 11 with fail
     clear m0 m1 m2' m3 m4 m5
     obtain ⟨m0, m1, m2', m3, m4, m5⟩ := box5 HP5.out.m
     refine wp_region_still_tail 7 (by kernel_rfl) (by kernel_rfl) ?_
     simp only [List.take_succ_cons, List.take_zero, List.drop_succ_cons, List.drop_zero]
     repeat still_step
     still_call (qF_any d.n u0 u1 gn gf 0 0 _ rfl (by omega) hn u14 HP5.out.drew.nb HP5.out.drew.f)
     repeat still_step
     still_call (pF_any d.n u0 u1 gn gf 2 2 _ rfl (by omega) hn u04 HP5.out.drew.nb HP5.out.drew.f)
     repeat still_step
     try refine wpStill_nil ?_
     change wpList _ _ _ _ _ V5.drew
     obtain ⟨X5, hX⟩ : ∃ X : World, X = V5.drew := ⟨_, rfl⟩
     rw [← hX]
     have HX5:=hide (HP5.out.drew.cast hX)
     clear hX m0 m1 m2' m3 m4 m5
     go_wp2_with fail
     refine (lead_any d hd A B cp cq m (plc (d.n + 1) u1 0) (plc d.n u0 2) gd gn gr gf g1 c1 (d.n + 2) g2 c2 n2 base d.n u0 u1 _ _ _ y (d.lp : Int) _ w X5 HM.out HS.out.dg hy.2 (by omega) HX5.out (by have := HN2.out; unfold plc; omega) (by have := HN2.out; unfold plc; omega) (by have := HN2.out; have := HM.out; omega) (by have := HN2.out; omega)).mono ?_
     rintro e V6 ⟨rfl, hp6⟩
     have HP6:=hide hp6
     clear hp6
     obtain ⟨m0, m1, m2', m3, m4, m5⟩ := box5 HP6.out.m
     go_upto_region 12 with fail
     refine wp_region_still_tail 7 (by kernel_rfl) (by kernel_rfl) ?_
     simp only [List.take_succ_cons, List.take_zero, List.drop_succ_cons, List.drop_zero]
     repeat still_step
     still_call (pF_any d.n u0 u1 gn gf 3 3 _ rfl (by omega) hn u04 HP6.out.drew.nb HP6.out.drew.f)
     repeat still_step
     still_call (qF_any d.n u0 u1 gn gf 3 3 _ rfl (by omega) hn u14 HP6.out.drew.nb HP6.out.drew.f)
     repeat still_step
     try refine wpStill_nil ?_
     change wpList _ _ _ _ _ V6.drew
     obtain ⟨X6, hX⟩ : ∃ X : World, X = V6.drew := ⟨_, rfl⟩
     rw [← hX]
     have HX6:=hide (HP6.out.drew.cast hX)
     clear hX m0 m1 m2' m3 m4 m5
     go_wp2_with fail
     refine (lead_any d hd A B cp cq m (plc d.n u0 3) (plc (d.n + 1) u1 3) gd gn gr gf g1 c1 (d.n + 2) g2 c2 n2 base d.n u0 u1 _ _ _ x (if y < 0 then (d.lp : Int) - 1 else (d.lp : Int)) _ w X6 HM.out HS.out.dg hx.2 (by split <;> omega) HX6.out (by have := HN2.out; unfold plc; omega) (by have := HN2.out; unfold plc; omega) (by have := HN2.out; have := HM.out; omega) (by have := HN2.out; omega)).mono ?_
     rintro e V7 ⟨rfl, hp7⟩
     have HP7:=hide hp7
     clear hp7
     go_wp2_with fail
     go_meet
     have e1 : pkL d x y 0 = (if x < 0 then (if y < 0 then (d.lp : Int) - 1 else (d.lp : Int)) - 1 else (if y < 0 then (d.lp : Int) - 1 else (d.lp : Int))):=by unfold pkL; rw [if_neg (by rintro ⟨h, _⟩; exact h rfl), if_pos rfl]
     have e2 : pkM d x y 0 ov = leadM d (leadM d (jn (jn (d.mt ++ List.replicate 8 0) (plc d.n u0 1) (plc (d.n + 1) u1 1)) (plc (d.n + 1) u1 2) (plc d.n u0 0)) y (plc (d.n + 1) u1 0) (plc d.n u0 2)) x (plc d.n u0 3) (plc (d.n + 1) u1 3):=by
      unfold pkM pk0
      rw [if_neg (by rintro ⟨h, _⟩; exact h rfl), if_neg (by decide), if_neg (by decide)]
      simp only [← EP.out, ← EQ.out]
     rw [e1, e2]
     exact HP7.out
    ·by_cases hx0 : x < 0
     ·go_wp2_with fail
      clear m0 m1 m2' m3 m4 m5
      obtain ⟨r0, r1, r2, r3⟩ := box3 HP5.out.r
      refine wp_region_still_tail 6 (by kernel_rfl) (by kernel_rfl) ?_
      simp only [List.take_succ_cons, List.take_zero, List.drop_succ_cons, List.drop_zero]
      repeat still_step
      still_call (qF_any d.n u0 u1 gn gf 3 3 _ rfl (by omega) hn u14 HP5.out.drew.nb HP5.out.drew.f)
      repeat still_step
      still_call (qF_any d.n u0 u1 gn gf 0 0 _ rfl (by omega) hn u14 HP5.out.drew.nb HP5.out.drew.f)
      repeat still_step
      try refine wpStill_nil ?_
      change wpList _ _ _ _ _ V5.drew
      obtain ⟨X5, hX⟩ : ∃ X : World, X = V5.drew := ⟨_, rfl⟩
      rw [← hX]
      have HX5:=hide (HP5.out.drew.cast hX)
      clear hX r0 r1 r2 r3
      go_wp2_with fail
      refine (join_any base g2 n2 c2 (plc (d.n + 1) u1 3) (plc (d.n + 1) u1 0) _ X5 HX5.out.o2 (by have := HN2.out; first | omega | (unfold plc; omega)) (by have := HN2.out; first | omega | (unfold plc; omega)) (by have := HN2.out; omega)).mono ?_
      rintro e V6 ⟨rfl, own5, gr5⟩
      have HP6:=hide (HX5.out.join own5 gr5)
      clear own5 gr5
      obtain ⟨r0, r1, r2, r3⟩ := box3 HP6.out.r
      go_upto_region 15 with fail
      refine wp_region_still_tail 6 (by kernel_rfl) (by kernel_rfl) ?_
      simp only [List.take_succ_cons, List.take_zero, List.drop_succ_cons, List.drop_zero]
      repeat still_step
      still_call (pF_any d.n u0 u1 gn gf 2 2 _ rfl (by omega) hn u04 HP6.out.drew.nb HP6.out.drew.f)
      repeat still_step
      still_call (pF_any d.n u0 u1 gn gf 3 3 _ rfl (by omega) hn u04 HP6.out.drew.nb HP6.out.drew.f)
      repeat still_step
      try refine wpStill_nil ?_
      change wpList _ _ _ _ _ V6.drew
      obtain ⟨X6, hX⟩ : ∃ X : World, X = V6.drew := ⟨_, rfl⟩
      rw [← hX]
      have HX6:=hide (HP6.out.drew.cast hX)
      clear hX r0 r1 r2 r3
      go_wp2_with fail
      refine (join_any base g2 n2 c2 (plc d.n u0 2) (plc d.n u0 3) _ X6 HX6.out.o2 (by have := HN2.out; first | omega | (unfold plc; omega)) (by have := HN2.out; first | omega | (unfold plc; omega)) (by have := HN2.out; omega)).mono ?_
      rintro e V7 ⟨rfl, own5, gr5⟩
      have HP7:=hide (HX6.out.join own5 gr5)
      clear own5 gr5
      obtain ⟨r0, r1, r2, r3⟩ := box3 HP7.out.r
      go_wp2_with fail
      go_meet
      have e1 : pkL d x y 1 = (d.lp : Int) - 1:=by unfold pkL; rw [if_pos ⟨by decide, hx0⟩]
      have e2 : pkM d x y 1 ov = jn (jn (jn (jn (d.mt ++ List.replicate 8 0) (plc d.n u0 1) (plc (d.n + 1) u1 1)) (plc (d.n + 1) u1 2) (plc d.n u0 0)) (plc (d.n + 1) u1 3) (plc (d.n + 1) u1 0)) (plc d.n u0 2) (plc d.n u0 3):=by
       unfold pkM pk0
       rw [if_pos ⟨by decide, hx0⟩]
       simp only [← EP.out, ← EQ.out]
      rw [e1, e2]
      exact HP7.out.loops _
     ·obtain ⟨q, rfl⟩ := Int.eq_ofNat_of_zero_le (show 0 ≤ x by omega)
      have hq : q < 4 * d.n:=by omega
      have hq2 : q < m:=by have := HM.out; omega
      have jq1 : (0 : Int) ≤ (q : Int):=by omega
      have jq2 : (q : Int) < (m : Int):=by omega
      have jq3 : ¬ ((q : Int) < 0):=by omega
      have hmq:=hd.lt q hq
      obtain ⟨mb, mo, rfl, _⟩ := mate_at (HS.out.keep HP5.out.bel).dg.m hq
      obtain ⟨u, hu⟩ : ∃ u, u = d.m q := ⟨_, rfl⟩
      rw [← hu] at hmq
      have HU:=hide hu
      clear hu
      go_upto_region 18 with fail
      clear m0 m1 m2' m3 m4 m5
      obtain ⟨m0, m1, m2', m3, m4, m5⟩ := box5 HP5.out.m
      obtain ⟨r0, r1, r2, r3⟩ := box3 HP5.out.r
      refine wp_region_still_tail 6 (by kernel_rfl) (by kernel_rfl) ?_
      simp only [List.take_succ_cons, List.take_zero, List.drop_succ_cons, List.drop_zero]
      repeat still_step
      still_call (pF_any d.n u0 u1 gn gf 3 3 _ rfl (by omega) hn u04 HP5.out.drew.nb HP5.out.drew.f)
      repeat still_step
      try refine wpStill_nil ?_
      change wpList _ _ _ _ _ V5.drew
      obtain ⟨X5, hX⟩ : ∃ X : World, X = V5.drew := ⟨_, rfl⟩
      rw [← hX]
      have HX5:=hide (HP5.out.drew.cast hX)
      clear hX r0 r1 r2 r3
      go_wp2_with fail
      refine (join_any base g2 n2 c2 q (plc d.n u0 3) _ X5 HX5.out.o2 (by have := HN2.out; first | omega | (unfold plc; omega)) (by have := HN2.out; first | omega | (unfold plc; omega)) (by have := HN2.out; omega)).mono ?_
      rintro e V6 ⟨rfl, own5, gr5⟩
      have HP6:=hide (HX5.out.join own5 gr5)
      clear own5 gr5
      clear m0 m1 m2' m3 m4 m5
      obtain ⟨r0, r1, r2, r3⟩ := box3 HP6.out.r
      go_upto_region 19 with fail
      refine wp_region_still_tail 6 (by kernel_rfl) (by kernel_rfl) ?_
      simp only [List.take_succ_cons, List.take_zero, List.drop_succ_cons, List.drop_zero]
      repeat still_step
      still_call (qF_any d.n u0 u1 gn gf 3 3 _ rfl (by omega) hn u14 HP6.out.drew.nb HP6.out.drew.f)
      repeat still_step
      still_call (qF_any d.n u0 u1 gn gf 0 0 _ rfl (by omega) hn u14 HP6.out.drew.nb HP6.out.drew.f)
      repeat still_step
      try refine wpStill_nil ?_
      change wpList _ _ _ _ _ V6.drew
      obtain ⟨X6, hX⟩ : ∃ X : World, X = V6.drew := ⟨_, rfl⟩
      rw [← hX]
      have HX6:=hide (HP6.out.drew.cast hX)
      clear hX r0 r1 r2 r3
      go_wp2_with fail
      refine (join_any base g2 n2 c2 (plc (d.n + 1) u1 3) (plc (d.n + 1) u1 0) _ X6 HX6.out.o2 (by have := HN2.out; first | omega | (unfold plc; omega)) (by have := HN2.out; first | omega | (unfold plc; omega)) (by have := HN2.out; omega)).mono ?_
      rintro e V7 ⟨rfl, own5, gr5⟩
      have HP7:=hide (HX6.out.join own5 gr5)
      clear own5 gr5
      obtain ⟨r0, r1, r2, r3⟩ := box3 HP7.out.r
      obtain ⟨m0, m1, m2', m3, m4, m5⟩ := box5 HP7.out.m
      obtain ⟨d0, d1, d2, d3⟩ := box3 HP7.out.d
      obtain ⟨mb', mo', em, cm⟩ := mate_at (HS.out.keep HP7.out.bel).dg.m hq
      injection em with em
      injection em with em1 em2
      subst em1
      subst em2
      rw [← HU.out] at cm
      go_upto_region 20 with fail
      refine wp_region_still_tail 10 (by kernel_rfl) (by kernel_rfl) ?_
      simp only [List.take_succ_cons, List.take_zero, List.drop_succ_cons, List.drop_zero]
      repeat still_step
      still_call (pF_any d.n u0 u1 gn gf 2 2 _ rfl (by omega) hn u04 HP7.out.drew.nb HP7.out.drew.f)
      repeat still_step
      try refine wpStill_nil ?_
      change wpList _ _ _ _ _ V7.drew
      obtain ⟨X7, hX⟩ : ∃ X : World, X = V7.drew := ⟨_, rfl⟩
      rw [← hX]
      have HX7:=hide (HP7.out.drew.cast hX)
      clear hX r0 r1 r2 r3
      go_wp2_with fail
      refine (join_any base g2 n2 c2 (plc d.n u0 2) u _ X7 HX7.out.o2 (by have := HN2.out; first | omega | (unfold plc; omega)) (by have := HN2.out; first | omega | (unfold plc; omega)) (by have := HN2.out; omega)).mono ?_
      rintro e V8 ⟨rfl, own5, gr5⟩
      have HP8:=hide (HX7.out.join own5 gr5)
      clear own5 gr5
      go_wp2_with fail
      go_meet
      have e1 : pkL d (q : Int) y 1 = (d.lp : Int):=by unfold pkL; rw [if_neg (fun h => absurd h.2 (by omega)), if_neg (by decide)]
      have e2 : pkM d (q : Int) y 1 ov = jn (jn (jn (jn (jn (d.mt ++ List.replicate 8 0) (plc d.n u0 1) (plc (d.n + 1) u1 1)) (plc (d.n + 1) u1 2) (plc d.n u0 0)) q (plc d.n u0 3)) (plc (d.n + 1) u1 3) (plc (d.n + 1) u1 0)) (plc d.n u0 2) u:=by
       unfold pkM pk0
       rw [if_neg (fun h => absurd h.2 (by omega)), if_pos rfl, Int.toNat_natCast, HU.out]
       simp only [← EP.out, ← EQ.out]
      rw [e1, e2]
      exact HP8.out
    ·obtain ⟨q, rfl⟩ := Int.eq_ofNat_of_zero_le (hneg rfl)
     have hq : q < 4 * d.n:=by omega
     have hq2 : q < m:=by have := HM.out; omega
     have jq1 : (0 : Int) ≤ (q : Int):=by omega
     have jq2 : (q : Int) < (m : Int):=by omega
     have jq3 : ¬ ((q : Int) < 0):=by omega
     have hmq:=hd.lt q hq
     obtain ⟨mb, mo, rfl, _⟩ := mate_at (HS.out.keep HP5.out.bel).dg.m hq
     obtain ⟨u, hu⟩ : ∃ u, u = d.m q := ⟨_, rfl⟩
     rw [← hu] at hmq
     have HU:=hide hu
     clear hu
     go_upto_region 22 with fail
     clear m0 m1 m2' m3 m4 m5
     obtain ⟨m0, m1, m2', m3, m4, m5⟩ := box5 HP5.out.m
     obtain ⟨r0, r1, r2, r3⟩ := box3 HP5.out.r
     refine wp_region_still_tail 6 (by kernel_rfl) (by kernel_rfl) ?_
     simp only [List.take_succ_cons, List.take_zero, List.drop_succ_cons, List.drop_zero]
     repeat still_step
     still_call (qF_any d.n u0 u1 gn gf 0 0 _ rfl (by omega) hn u14 HP5.out.drew.nb HP5.out.drew.f)
     repeat still_step
     try refine wpStill_nil ?_
     change wpList _ _ _ _ _ V5.drew
     obtain ⟨X5, hX⟩ : ∃ X : World, X = V5.drew := ⟨_, rfl⟩
     rw [← hX]
     have HX5:=hide (HP5.out.drew.cast hX)
     clear hX r0 r1 r2 r3
     go_wp2_with fail
     refine (join_any base g2 n2 c2 q (plc (d.n + 1) u1 0) _ X5 HX5.out.o2 (by have := HN2.out; first | omega | (unfold plc; omega)) (by have := HN2.out; first | omega | (unfold plc; omega)) (by have := HN2.out; omega)).mono ?_
     rintro e V6 ⟨rfl, own5, gr5⟩
     have HP6:=hide (HX5.out.join own5 gr5)
     clear own5 gr5
     clear m0 m1 m2' m3 m4 m5
     obtain ⟨r0, r1, r2, r3⟩ := box3 HP6.out.r
     go_upto_region 23 with fail
     refine wp_region_still_tail 6 (by kernel_rfl) (by kernel_rfl) ?_
     simp only [List.take_succ_cons, List.take_zero, List.drop_succ_cons, List.drop_zero]
     repeat still_step
     still_call (pF_any d.n u0 u1 gn gf 2 2 _ rfl (by omega) hn u04 HP6.out.drew.nb HP6.out.drew.f)
     repeat still_step
     still_call (pF_any d.n u0 u1 gn gf 3 3 _ rfl (by omega) hn u04 HP6.out.drew.nb HP6.out.drew.f)
     repeat still_step
     try refine wpStill_nil ?_
     change wpList _ _ _ _ _ V6.drew
     obtain ⟨X6, hX⟩ : ∃ X : World, X = V6.drew := ⟨_, rfl⟩
     rw [← hX]
     have HX6:=hide (HP6.out.drew.cast hX)
     clear hX r0 r1 r2 r3
     go_wp2_with fail
     refine (join_any base g2 n2 c2 (plc d.n u0 2) (plc d.n u0 3) _ X6 HX6.out.o2 (by have := HN2.out; first | omega | (unfold plc; omega)) (by have := HN2.out; first | omega | (unfold plc; omega)) (by have := HN2.out; omega)).mono ?_
     rintro e V7 ⟨rfl, own5, gr5⟩
     have HP7:=hide (HX6.out.join own5 gr5)
     clear own5 gr5
     obtain ⟨r0, r1, r2, r3⟩ := box3 HP7.out.r
     obtain ⟨m0, m1, m2', m3, m4, m5⟩ := box5 HP7.out.m
     obtain ⟨d0, d1, d2, d3⟩ := box3 HP7.out.d
     obtain ⟨mb', mo', em, cm⟩ := mate_at (HS.out.keep HP7.out.bel).dg.m hq
     injection em with em
     injection em with em1 em2
     subst em1
     subst em2
     rw [← HU.out] at cm
     go_upto_region 24 with fail
     refine wp_region_still_tail 10 (by kernel_rfl) (by kernel_rfl) ?_
     simp only [List.take_succ_cons, List.take_zero, List.drop_succ_cons, List.drop_zero]
     repeat still_step
     still_call (qF_any d.n u0 u1 gn gf 3 3 _ rfl (by omega) hn u14 HP7.out.drew.nb HP7.out.drew.f)
     repeat still_step
     try refine wpStill_nil ?_
     change wpList _ _ _ _ _ V7.drew
     obtain ⟨X7, hX⟩ : ∃ X : World, X = V7.drew := ⟨_, rfl⟩
     rw [← hX]
     have HX7:=hide (HP7.out.drew.cast hX)
     clear hX r0 r1 r2 r3
     go_wp2_with fail
     refine (join_any base g2 n2 c2 (plc (d.n + 1) u1 3) u _ X7 HX7.out.o2 (by have := HN2.out; first | omega | (unfold plc; omega)) (by have := HN2.out; first | omega | (unfold plc; omega)) (by have := HN2.out; omega)).mono ?_
     rintro e V8 ⟨rfl, own5, gr5⟩
     have HP8:=hide (HX7.out.join own5 gr5)
     clear own5 gr5
     go_wp2_with fail
     go_meet
     have e1 : pkL d (q : Int) y (-1) = (d.lp : Int):=by unfold pkL; rw [if_neg (fun h => absurd h.2 (by omega)), if_neg (by decide)]
     have e2 : pkM d (q : Int) y (-1) ov = jn (jn (jn (jn (jn (d.mt ++ List.replicate 8 0) (plc d.n u0 1) (plc (d.n + 1) u1 1)) (plc (d.n + 1) u1 2) (plc d.n u0 0)) q (plc (d.n + 1) u1 0)) (plc d.n u0 2) (plc d.n u0 3)) (plc (d.n + 1) u1 3) u:=by
      unfold pkM pk0
      rw [if_neg (fun h => absurd h.2 (by omega)), if_neg (by decide), if_pos rfl, Int.toNat_natCast, HU.out]
      simp only [← EP.out, ← EQ.out]
     rw [e1, e2]
     exact HP8.out
   case rest =>
    have HP9:=hide hcut
    clear hcut HP3 HP4 HP5 HX3 HX4 m0 m1 m2' m3 m4 m5
    have hpl : 0 ≤ pkL d x y sg:=by
     have h0:=HC.out
     unfold pkC needP at h0
     unfold pkL
     by_cases a1 : x < 0 <;> by_cases a2 : y < 0 <;> by_cases a3 : sg = 0 <;> simp [a1, a2, a3] at h0 ⊢ <;> (try split at h0) <;> omega
    obtain ⟨lp, hlp9⟩ := Int.eq_ofNat_of_zero_le hpl
    rw [hlp9] at HP9
    have HLP:=hide hlp9
    clear hlp9 hpl
    obtain ⟨r0, r1, r2, r3⟩ := box3 HP9.out.r
    have n0:=HP9.out.nb.cell (i := 0) (by simp)
    simp only [List.getElem_cons_zero] at n0
    obtain ⟨vs, b1, l1⟩ := HP9.out.rd
    obtain ⟨us, b2, l2⟩ := HP9.out.rm
    obtain ⟨p0, p1, p2, p3⟩ : wc.cell? ⟨w.heap.size + 1 + 1, 0, none⟩ = some (cv wc ⟨w.heap.size + 1 + 1, 0, none⟩) ∧ wc.cell? ⟨w.heap.size + 1 + 1, 1, none⟩ = some (cv wc ⟨w.heap.size + 1 + 1, 1, none⟩) ∧ wc.cell? ⟨w.heap.size + 1 + 1, 2, none⟩ = some (cv wc ⟨w.heap.size + 1 + 1, 2, none⟩) ∧ (∀ o, wc.frozen? ⟨w.heap.size + 1 + 1, o, none⟩ = false) := ⟨cv_some (b1.cell (i := 0) (by omega)), cv_some (b1.cell (i := 1) (by omega)), cv_some (b1.cell (i := 2) (by omega)), b1.free⟩
    obtain ⟨q0, q1, q2, q3, q4, q5⟩ : wc.cell? ⟨w.heap.size + 1 + 1 + 1, 0, none⟩ = some (cv wc ⟨w.heap.size + 1 + 1 + 1, 0, none⟩) ∧ wc.cell? ⟨w.heap.size + 1 + 1 + 1, 1, none⟩ = some (cv wc ⟨w.heap.size + 1 + 1 + 1, 1, none⟩) ∧ wc.cell? ⟨w.heap.size + 1 + 1 + 1, 2, none⟩ = some (cv wc ⟨w.heap.size + 1 + 1 + 1, 2, none⟩) ∧ wc.cell? ⟨w.heap.size + 1 + 1 + 1, 3, none⟩ = some (cv wc ⟨w.heap.size + 1 + 1 + 1, 3, none⟩) ∧ wc.cell? ⟨w.heap.size + 1 + 1 + 1, 4, none⟩ = some (cv wc ⟨w.heap.size + 1 + 1 + 1, 4, none⟩) ∧ (∀ o, wc.frozen? ⟨w.heap.size + 1 + 1 + 1, o, none⟩ = false) := ⟨cv_some (b2.cell (i := 0) (by omega)), cv_some (b2.cell (i := 1) (by omega)), cv_some (b2.cell (i := 2) (by omega)), cv_some (b2.cell (i := 3) (by omega)), cv_some (b2.cell (i := 4) (by omega)), b2.free⟩
    have z1:=HP9.out.a3
    have z2:=HP9.out.a2
    have y1 : gr ≠ w.heap.size + 1 + 1:=by omega
    have y2 : gr ≠ w.heap.size + 1 + 1 + 1:=by omega
    have y3 : gn ≠ w.heap.size + 1 + 1:=by omega
    have y4 : gn ≠ w.heap.size + 1 + 1 + 1:=by omega
    have y5 : w.heap.size + 1 + 1 ≠ w.heap.size + 1 + 1 + 1:=by omega
    go_upto_region 25 with fail
    go_region
    go_wp2_with fail
    refine bodyPost_ret (v := .tuple #[.agg #[.slice (some ⟨g1, 0, none⟩) (d.n + 2) c1, .slice (some ⟨g2, 0, none⟩) n2 c2, .int .i64 (lp : Int)], .agg #[.int .i64 4, .int .i64 (d.n : Int), .int .i64 ((d.n : Int) + 1), .int .i64 0, .bool false], .int .i64 0]) ?_ rfl ?_
    ·obtain ⟨e0, e1, e2, e3, e4, e5, e6, e7⟩ := fin8 b1 b2 l1 l2 (by omega) (.slice (some ⟨g1, 0, none⟩) (d.n + 2) c1) (.slice (some ⟨g2, 0, none⟩) n2 c2) (.int .i64 (lp : Int)) (.int .i64 4) (.int .i64 (d.n : Int)) (.int .i64 ((d.n : Int) + 1)) (.int .i64 0) (.bool false)
     clear p0 p1 p2 p3 q0 q1 q2 q3 q4 q5
     simp [results, Try.results49, go_sem, e0, e1, e2, e3, e4, e5, e6, e7]
    ·have en : (pkD d x y sg ov).n = d.n + 2:=by unfold pkD Pl.Dg.n; simp
     have em : n2 = 4 * (d.n + 2):=by have := HN2.out; omega
     have hbs : w.heap.size + 1 + 1 + 1 < base:=by have := HP9.out.a5; omega
     obtain ⟨lo2, _⟩ := HP9.out.lob (by have := HN2.out; omega)
     obtain ⟨gg, eg, lo1, _⟩ := owns_pos (by omega) HP9.out.o1
     injection eg with eg
     injection eg with eg
     subst eg
     refine ⟨fun h => absurd HC.out h, fun _ => ⟨some ⟨g1, 0, none⟩, some ⟨g2, 0, none⟩, c1, c2, ?_, ?_, ?_⟩, (below8 HP9.out.bel _ _ _ _ _ _ _ _).drew⟩
     ·rw [en, em]
      unfold pkD Mv.v
      have e9 : ((pkL d x y sg).toNat : Int) = (lp : Int):=by rw [HLP.out, Int.toNat_natCast]
      simp only [e9]
     ·rw [en]
      refine RowT.drew (own_intsT (base := base) (e := 3) (c := c1) ?_)
      (iterate 8 refine own_set ?_ (by omega))
      exact HP9.out.o1
     ·rw [en, ← em]
      refine RowT.drew (OwnN.intsT (base := base) (c := c2) ?_)
      unfold OwnN
      (iterate 8 refine own_set ?_ (by omega))
      exact HP9.out.o2
 ·have HC:=hide hC
  have t1 : (pkC d F P x y sg != 0) = true:=by rw [bne_iff_ne]; exact hC
  clear hC
  obtain ⟨vs, r1, l1⟩ := PB1.out.rd
  obtain ⟨us, r2, l2⟩ := PB1.out.rm
  obtain ⟨p0, p1, p2, p3⟩ : w1.cell? ⟨w.heap.size + 1 + 1, 0, none⟩ = some (cv w1 ⟨w.heap.size + 1 + 1, 0, none⟩) ∧ w1.cell? ⟨w.heap.size + 1 + 1, 1, none⟩ = some (cv w1 ⟨w.heap.size + 1 + 1, 1, none⟩) ∧ w1.cell? ⟨w.heap.size + 1 + 1, 2, none⟩ = some (cv w1 ⟨w.heap.size + 1 + 1, 2, none⟩) ∧ (∀ o, w1.frozen? ⟨w.heap.size + 1 + 1, o, none⟩ = false) := ⟨cv_some (r1.cell (i := 0) (by omega)), cv_some (r1.cell (i := 1) (by omega)), cv_some (r1.cell (i := 2) (by omega)), r1.free⟩
  obtain ⟨q0, q1, q2, q3, q4, q5⟩ : w1.cell? ⟨w.heap.size + 1 + 1 + 1, 0, none⟩ = some (cv w1 ⟨w.heap.size + 1 + 1 + 1, 0, none⟩) ∧ w1.cell? ⟨w.heap.size + 1 + 1 + 1, 1, none⟩ = some (cv w1 ⟨w.heap.size + 1 + 1 + 1, 1, none⟩) ∧ w1.cell? ⟨w.heap.size + 1 + 1 + 1, 2, none⟩ = some (cv w1 ⟨w.heap.size + 1 + 1 + 1, 2, none⟩) ∧ w1.cell? ⟨w.heap.size + 1 + 1 + 1, 3, none⟩ = some (cv w1 ⟨w.heap.size + 1 + 1 + 1, 3, none⟩) ∧ w1.cell? ⟨w.heap.size + 1 + 1 + 1, 4, none⟩ = some (cv w1 ⟨w.heap.size + 1 + 1 + 1, 4, none⟩) ∧ (∀ o, w1.frozen? ⟨w.heap.size + 1 + 1 + 1, o, none⟩ = false) := ⟨cv_some (r2.cell (i := 0) (by omega)), cv_some (r2.cell (i := 1) (by omega)), cv_some (r2.cell (i := 2) (by omega)), cv_some (r2.cell (i := 3) (by omega)), cv_some (r2.cell (i := 4) (by omega)), r2.free⟩
  go_wp2
  refine bodyPost_ret (v := .tuple #[nilD, nilM, .int .i64 (pkC d F P x y sg)]) ?_ rfl ?_
  ·obtain ⟨e0, e1, e2, e3, e4, e5, e6, e7⟩ := fin8 r1 r2 l1 l2 (by omega) (.slice none 0 0) (.slice none 0 0) (.int .i64 0) (.int .i64 0) (.int .i64 0) (.int .i64 0) (.int .i64 0) (.bool false)
   unfold nilD nilM
   simp [results, Try.results49, go_sem, e0, e1, e2, e3, e4, e5, e6, e7]
  ·exact ⟨fun _ => (show ResErr _ _ from rfl), fun h => absurd h HC.out, below8 PB1.out.bel _ _ _ _ _ _ _ _⟩
end Go.Proofs.Ytobbepmlmbbamaa
end
section
namespace Go.Proofs.Ytobbepmlmbbamaa
open Go Go.RowKit
def Gl (ps : List Int) (k i : Nat) : List Nat := (List.range k).filter (fun c => decide (Pl.pv ps c = (i : Int)))
theorem Gl_succ (ps : List Int) (k i : Nat) : Gl ps (k + 1) i = Gl ps k i ++ if Pl.pv ps k = (i : Int) then [k] else [] := by
 unfold Gl
 rw [List.range_succ, List.filter_append]
 by_cases h : Pl.pv ps k = (i : Int) <;> simp [List.filter_cons, h]
theorem Gl_len (ps : List Int) (k i : Nat) : (Gl ps k i).length ≤ k := by
 unfold Gl
 have:=List.length_filter_le (fun c => decide (Pl.pv ps c = (i : Int))) (List.range k)
 simpa using this
theorem mem_Gl {ps : List Int} {k i c : Nat} : c ∈ Gl ps k i ↔ c < k ∧ Pl.pv ps c = (i : Int) := by unfold Gl; simp
def gv (vs : List Value) (i : Nat) : Value := vs.getD i (.slice none 0 0)
structure Grp (w : World) (g P : Nat) (ps : List Int) (k : Nat) (vs : List Value) (W : World) : Prop where
 len : vs.length = P
 row : Row W g 22 vs
 own : ∀ i, i < P → W.ownsRow (g + 1) 3 1 (gv vs i) (Gl ps k i).length ((Gl ps k i).map (fun k : Nat => Value.int .i64 k))
 ne : ∀ i j, i < P → j < P → i ≠ j → ∀ b, (gv vs i).ownBlock = some b → (gv vs j).ownBlock ≠ some b
 bel : Below w.heap.size w W
 lo : w.heap.size ≤ g
theorem Grp.below {w : World} {g P : Nat} {ps : List Int} {k : Nat} {vs : List Value} {W W' : World} (h : Grp w g P ps k vs W) (hb : Below W.heap.size W W') : Grp w g P ps k vs W' :=
 ⟨h.len, h.row.below hb, fun i hi => own_keep (h.own i hi) hb (Nat.le_refl _), h.ne, h.bel.trans (hb.mono h.bel.size), h.lo⟩
theorem gv_set {vs : List Value} {q : Nat} (hq : q < vs.length) (v : Value) (i : Nat) : gv (vs.set q v) i = if i = q then v else gv vs i := by
 unfold gv
 rw [List.getD_eq_getElem?_getD, List.getD_eq_getElem?_getD, List.getElem?_set]
 by_cases h : q = i
 ·subst h; simp [hq]
 ·rw [if_neg h, if_neg (fun e => h e.symm)]
theorem Grp.put {w : World} {g P : Nat} {ps : List Int} {k q : Nat} {vs : List Value} {W W2 : World} {v' : Value} {g' : Nat} (h : Grp w g P ps k vs W) (hq : q < P) (hp : Pl.pv ps k = (q : Int))
 (own : W2.ownsRow (g + 1) 3 1 v' ((Gl ps k q).length + 1) ((Gl ps k q).map (fun k : Nat => Value.int .i64 k) ++ [.int .i64 (k : Nat)])) (gr : W.grownBy W2 (gv vs q).ownBlock) (hv : v'.ownBlock = some g') (hat : (gv vs q).ownBlock = some g' ∨ g' = W.heap.size) :
 Grp w g P ps (k + 1) (vs.set q v') (W2.setCell ⟨g, q, none⟩ v') := by
 have hql : q < vs.length:=by rw [h.len]; exact hq
 have hlt:=fun i hi => (h.own i hi).lt
 refine ⟨by rw [List.length_set, h.len], (h.row.grown gr ?_).set q v', fun i hi => ?_, fun i j hi hj hij b e1 e2 => ?_, (h.bel.grown gr h.bel.size (fun b e => by have := (hlt q hq b e).1; have := h.lo; omega)).setCell h.lo _, h.lo⟩
 ·intro e
  have:=(hlt q hq g e.symm).1
  omega
 ·rw [gv_set hql, Gl_succ]
  by_cases e : i = q
  ·subst e
   rw [if_pos rfl, if_pos hp]
   refine ownsRow_setCell_below ?_ (by show g < g + 1; omega) _
   simpa using own
  ·rw [if_neg e, if_neg (by omega), List.append_nil]
   refine ownsRow_setCell_below ((h.own i hi).kept gr ?_) (by show g < g + 1; omega) _
   cases hm : (gv vs i).ownBlock with
   | none => exact .inl rfl
   | some b => exact .inr (fun e' => h.ne i q hi hq e b hm e'.symm)
 ·rw [gv_set hql] at e1 e2
  by_cases ei : i = q
  ·rw [if_pos ei, hv] at e1
   injection e1 with e1
   rw [if_neg (by omega)] at e2
   rcases hat with e | e
   ·exact h.ne q j hq hj (by omega) g' e (by rw [e2, e1])
   ·have:=(hlt j hj b e2).2
    omega
  ·rw [if_neg ei] at e1
   by_cases ej : j = q
   ·rw [if_pos ej, hv] at e2
    injection e2 with e2
    rcases hat with e | e
    ·exact h.ne i q hi hq ei g' (by rw [e1, e2]) e
    ·have:=(hlt i hi b e1).2
     omega
   ·rw [if_neg ej] at e2
    exact h.ne i j hi hj hij b e1 e2
def GraphPost (d : Pl.Dg) (w : World) (e : Ending) (w' : World) : Prop :=
 ∃ (A : Option Addr) (c P : Nat) (ps : List Int) (vs : List Value), e = .returned (.slice A P c) ∧ P ≤ d.n ∧ Pl.LB d ps P ∧ (∀ a, a < d.n → 0 ≤ Pl.pv ps a) ∧ RowT w' 22 A P vs ∧ Vs w' vs ((List.range P).map (Gl ps d.n)) ∧ Below w.heap.size w w' ∧ Far w.heap.size vs
theorem run_rows (n : Nat) (hn : n ≤ 100000) (w : World) : (Instr.makeSlice 57 (.int .i64 (n : Int)) (.int .i64 (n : Int))).run Try.prog w = .ok (.slice (some ⟨w.heap.size, 0, none⟩) n n) (w.alloc (.cells (Array.replicate n (Value.slice none 0 0)) 22)) := by
 obtain ⟨i0, hi, hz0, hz1, hz2⟩ := info_parts rowInfo
 have:=run_make (P := Try.prog) w 57 22 i0 (.slice none 0 0) Try.underlying57 hi hz0 .i64 .i64 n n (by omega) (Int.le_refl _) (by rw [hz2]; omega) (by omega)
 rw [hz1, Nat.mul_one, Int.toNat_natCast, show madeCells (Value.cells (.slice none 0 0)) n = (List.replicate n (.slice none 0 0)).toArray from made_rep _ _] at this
 exact this
theorem Row.gv {W : World} {g : Nat} {t : TypeId} {vs : List Value} (h : Row W g t vs) {q : Nat} (hq : q < vs.length) : W.cell? ⟨g, q, none⟩ = some (gv vs q) := by
 rw [h.cell hq]
 unfold Go.Proofs.Ytobbepmlmbbamaa.gv
 rw [List.getD_eq_getElem?_getD, List.getElem?_eq_getElem hq]; rfl
theorem range_get {P i : Nat} {l : List Nat} {f : Nat → List Nat} (e : ((List.range P).map f)[i]? = some l) : i < P ∧ l = f i := by
 rw [List.getElem?_map] at e
 by_cases h : i < P
 ·rw [List.getElem?_range h] at e
  injection e with e
  exact ⟨h, e.symm⟩
 ·rw [List.getElem?_eq_none (by simpa using Nat.le_of_not_lt h)] at e
  cases e
theorem Grp.vs {w : World} {g P : Nat} {ps : List Int} {k : Nat} {vs : List Value} {W : World} (h : Grp w g P ps k vs W) : Vs W vs ((List.range P).map (Gl ps k)) := by
 refine ⟨by simp [h.len], fun i l e => ?_⟩
 obtain ⟨hi, rfl⟩ := range_get e
 have ho:=h.own i hi
 obtain ⟨A, c, e2⟩ := owns_slice ho
 refine ⟨Go.Proofs.Ytobbepmlmbbamaa.gv vs i, ?_, A, c, e2, by rw [e2] at ho; exact own_rowT ho⟩
 unfold Go.Proofs.Ytobbepmlmbbamaa.gv
 rw [List.getD_eq_getElem?_getD, List.getElem?_eq_getElem (by rw [h.len]; exact hi)]; rfl
theorem Grp.far {w : World} {g P : Nat} {ps : List Int} {k : Nat} {vs : List Value} {W : World} (h : Grp w g P ps k vs W) : Far w.heap.size vs := fun v hv b hb => by
 obtain ⟨i, hi, e⟩ := List.mem_iff_getElem.1 hv
 have h1 : Go.Proofs.Ytobbepmlmbbamaa.gv vs i = v:=by unfold Go.Proofs.Ytobbepmlmbbamaa.gv; rw [List.getD_eq_getElem?_getD, List.getElem?_eq_getElem hi]; exact e
 have h2:=(h.own i (by rw [← h.len]; exact hi)).lt b (by rw [h1]; exact hb)
 have:=h.lo
 omega
set_option maxRecDepth 100000 in
set_option maxHeartbeats 2000000 in
theorem graph_any (d : Pl.Dg) (hd : Pl.Valid d) (A B : Option Addr) (cp cq m : Nat) (w : World) (hm : m = 4 * d.n) (hg : DgAt w A B d) :
 Calls Try.prog 91 #[.agg #[.slice A d.n cp, .slice B m cq, .int .i64 d.lp]] w (GraphPost d w) := by
 have hn:=hd.wf.few
 have HM:=hide hm
 have HG:=hide hg
 have B0:=hide (show Below w.heap.size w (w.alloc (.cells #[.slice A d.n cp, .slice B m cq, .int .i64 d.lp] 24)) from (Below.refl _ _).alloc (Nat.le_refl _) _)
 have X0:=hide (show Row (w.alloc (.cells #[.slice A d.n cp, .slice B m cq, .int .i64 d.lp] 24)) w.heap.size 24 [.slice A d.n cp, .slice B m cq, .int .i64 d.lp] from Row.new w _ [_, _, _])
 clear hg
 subst hm
 go_enter Try.func91, Try.ntmps91
 go_wp2_with fail
 refine (valid_yes d hd A B cp cq _ _ rfl (HG.out.keep B0.out)).mono ?_
 rintro e w1 ⟨rfl, hb1⟩
 have B1:=hide (B0.out.trans (hb1.mono B0.out.size))
 have X1:=hide (X0.out.below hb1)
 obtain ⟨f0, f1, f2, f3⟩ := box3 X1.out
 clear hb1
 go_wp2_with fail
 refine (label_any d hd.wf A B cp cq _ _ (HG.out.keep B1.out)).mono ?_
 rintro e w2 ⟨ps, P, gp, rfl, hlb, hall, hgp, hir, hb2⟩
 have HLB:=hide hlb
 have HALL:=hide hall
 have hPn:=hlb.le
 have HIR:=hide hir
 have B2:=hide (B1.out.trans (hb2.mono B1.out.size))
 have hgps:=hir.lt
 have hps : ps.length = d.n:=hlb.len
 have HPS:=hide hps
 clear hlb hall hir hb2 f0 f1 f2 f3 hps
 have hmk:=fun W : World => run_rows P (by omega) W
 have H0:=hide (show Grp w w2.heap.size P ps 0 (List.replicate P (.slice none 0 0)) (w2.alloc (.cells (Array.replicate P (Value.slice none 0 0)) 22)) from by
  have hgv : ∀ i, gv (List.replicate P (.slice none 0 0)) i = .slice none 0 0:=fun i => by
   unfold Go.Proofs.Ytobbepmlmbbamaa.gv
   rw [List.getD_eq_getElem?_getD, List.getElem?_replicate]
   split <;> rfl
  refine ⟨by simp, ?_, fun i hi => ?_, fun i j hi hj hij b e => ?_, B2.out.alloc B2.out.size _, B2.out.size⟩
  ·have:=Row.new w2 22 (List.replicate P (.slice none 0 0))
   simpa using this
  ·rw [hgv]; exact World.ownsRow_nil _ _ _ _
  ·rw [hgv] at e; simp [Value.ownBlock] at e)
 have HI0:=hide (show IRow (w2.alloc (.cells (Array.replicate P (Value.slice none 0 0)) 22)) gp ps from Row.alloc HIR.out _)
 go_wp2
 clear hmk
 obtain ⟨gg, hgg⟩ : ∃ gg, gg = w2.heap.size := ⟨_, rfl⟩
 rw [← hgg] at H0 hgps ⊢
 have HGG:=hide hgg
 go_loopg [20] d.n (fun g i wx => ∃ (k : Nat) (vs : List Value), k + g = d.n ∧ i = .int .i64 k ∧ Grp w gg P ps k vs wx ∧ IRow wx gp ps)
 case atStart => exact ⟨0, _, by omega, rfl, by have := H0.out; rw [hgg] at this ⊢; exact this, HI0.out⟩
 case round =>
  clear H0 HI0 HIR hgg HGG
  obtain ⟨k, vs, hkg, rfl, hgr, hir⟩ := hrel
  have HKG:=hide hkg
  have hkn : k ≤ d.n:=by omega
  have HGR:=hide hgr
  have HIR:=hide hir
  have hsz:=hgr.row.lt
  clear hkg hgr hir
  by_cases hlt : k < d.n
  ·have c1:=HIR.out.cell (i := k) (by rw [HPS.out]; exact hlt)
   have h0:=HALL.out k hlt
   have h1:=(HLB.out.lo k hlt).2
   obtain ⟨q, hq⟩ := Int.eq_ofNat_of_zero_le h0
   rw [hq] at c1 h1
   have HQ:=hide hq
   clear hq h0
   have hqP : q < P:=by omega
   have hql : q < vs.length:=by rw [HGR.out.len]; exact hqP
   have c2:=HGR.out.row.gv hql
   have fr2:=HGR.out.row.free q
   obtain ⟨vq, hvq⟩ : ∃ v, v = gv vs q := ⟨_, rfl⟩
   rw [← hvq] at c2
   have HVQ:=hide hvq
   clear hvq
   have iq : (0 : Int) ≤ (q : Int):=by omega
   have jq : (q : Int) < (P : Int):=by omega
   have hgl:=Gl_len ps k q
   obtain ⟨i0, hi0, hz0, hz1, hz2⟩ := info_parts intInfo
   have OQ:=hide (show wr.ownsRow (gg + 1) 3 1 vq (Gl ps k q).length ((Gl ps k q).map (fun k : Nat => Value.int .i64 k)) by rw [HVQ.out]; exact HGR.out.own q hqP)
   go_wp2_with (at_builtin; refine wpList_append_lies _ (by rfl) _ _ 22 (by rfl) (gg + 1) 3 i0 (.int .i64 0) 1 8 Try.underlying22 hi0 hz0 hz1 hz2 rfl (by omega) vq (Gl ps k q).length _ (by rfl) (OQ.out.alloc _) ⟨wr.heap.size, 0, none⟩ 1 1 [.int .i64 (k : Nat)] (by rfl) (by rfl) (one_news wr (.int .i64 (k : Nat))) (by simp [Value.oneCell']) (by omega) (by unfold maxLen; omega) (by omega) (by simp; omega) (wr.heap.size + 1) (by simp) ?_; intro g3 c3 w3 own3 grow3 at3 lt3; have hrow3 := Row.grown (Row.alloc HGR.out.row (.cells #[.int .i64 (k : Nat)] 3)) grow3 (by intro e; have := (OQ.out.lt gg e.symm).1; omega); have cq3 := hrow3.gv hql; have fq3 := hrow3.free q; have OWN3 := hide own3; have GR3 := hide grow3; have AT3 := hide at3; have HROW3 := hide hrow3; clear own3 grow3 at3 hrow3)
   go_roundg (gk - 1)
   case measure => have := HKG.out; omega
   case rel =>
    refine ⟨k + 1, vs.set q (.slice (some ⟨g3, 0, none⟩) ((Gl ps k q).length + 1) c3), by have := HKG.out; omega, by go_num, ?_, ?_⟩
    ·exact Grp.put (HGR.out.below ((Below.refl _ _).alloc (Nat.le_refl _) (.cells #[.int .i64 (k : Nat)] 3))) hqP HQ.out OWN3.out (by rw [← HVQ.out]; exact GR3.out) rfl (by rw [← HVQ.out]; simpa using AT3.out)
    ·refine Row.other (Row.grown (Row.alloc HIR.out _) GR3.out ?_) (by show gp ≠ gg; omega) _
     intro e
     have:=(OQ.out.lt gp e.symm).1
     omega
  ·go_wp2
   go_ret
   obtain rfl : k = d.n := by omega
   refine ⟨_, _, P, ps, vs, rfl, hPn, HLB.out, HALL.out, ?_, HGR.out.vs, HGR.out.bel, HGR.out.far⟩
   refine ⟨HGR.out.len, fun _ => ⟨gg, 0, vs.toArray, (0, 0), rfl, HGR.out.row, fun j u hu => ?_⟩⟩
   rw [Nat.zero_add]
   simpa using hu
end Go.Proofs.Ytobbepmlmbbamaa
end
