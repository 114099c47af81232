/-
 The texts Slv, Slt, Xo, Xp, Xr, Xk, Xg, Xh, Xu, Xv, Xx, Ya, Yb, Xy, Yc, Yf, Byp, Rst, Unc, Und in one.
-/
import Derived.Test.YtcaoblilkgajoaaDoorG06
import Derived.Test.YtcaoblilkgajoaaDoorG05
import Derived.Test.YtcaoblilkgajoaaDoorG04
import Derived.Deep.AppendLies
import Derived.Test.YtcaoblilkgajoaaDoorG00
import Derived.Deep.DeepCutAuto
set_option linter.unusedVariables false
set_option linter.unusedSimpArgs false
section
namespace Go.Proofs.YtcaoblilkgajoaaDoor.Pl
theorem out_opp {d : Dg} (hd : Wf d) {h : Nat} (hh : h < 4 * d.n) : out d (tn h 2) = !out d h := by
 have s := hd.sign (h / 4) (by omega)
 unfold out
 rw [tn_div, tn_mod]
 generalize d.s (h / 4) = s at *
 have ha : h % 4 = 0 ∨ h % 4 = 1 ∨ h % 4 = 2 ∨ h % 4 = 3 := by omega
 rcases ha with a | a | a | a <;> rw [a] <;> rcases s with rfl | rfl <;> rfl
/-- Three half-edges of a face, at three crossings. -/
structure Tr (d : Dg) (h0 h1 h2 : Nat) : Prop where
 l0 : h0 < 4 * d.n
 e0 : nx d h0 = h1
 e1 : nx d h1 = h2
 e2 : nx d h2 = h0
 c01 : h0 / 4 ≠ h1 / 4
 c12 : h1 / 4 ≠ h2 / 4
 c02 : h0 / 4 ≠ h2 / 4
def tu (h0 h1 h2 x : Nat) : Nat := tau h0 h1 h2 (tn h0 1) (tn h1 1) (tn h2 1) (tn h0 2) (tn h1 2) (tn h2 2) (tn h0 3) (tn h1 3) (tn h2 3) x
theorem Tr.tri {d : Dg} (hd : Wf d) {h0 h1 h2 : Nat} (t : Tr d h0 h1 h2) : Tri (dart d) rot d.m (tu h0 h1 h2) h0 h1 h2 (tn h0 1) (tn h1 1) (tn h2 1) (tn h0 2) (tn h1 2) (tn h2 2) (tn h0 3) (tn h1 3) (tn h2 3) := tri_of hd t.l0 t.e0 t.e1 t.e2 t.c01 t.c12 t.c02
theorem Tr.out {d : Dg} (hd : Wf d) {h0 h1 h2 : Nat} (t : Tr d h0 h1 h2) {x : Nat} (hx : x < 4 * d.n) : Pl.out d (tu h0 h1 h2 x) = Pl.out d x := by
 have T := t.tri hd
 have l1 : h1 < 4 * d.n := T.mem h1 (by simp)
 have l2 : h2 < 4 * d.n := T.mem h2 (by simp)
 -- a half-edge and the one across the crossing of its mate
 have key : ∀ {h h' : Nat}, h < 4 * d.n → d.m h = tn h' 1 → h' < 4 * d.n → Pl.out d (tn h 2) = Pl.out d (tn h' 1) ∧ Pl.out d (tn h' 3) = Pl.out d h := by
  intro h h' hh e hh'
  have w := hd.way h hh
  rw [e] at w
  have o1 := out_opp hd hh
  have o2 := out_opp hd (show tn h' 1 < 4 * d.n from tn_lt hh')
  rw [tn_tn] at o2
  constructor
  ·rw [o1]; cases q : Pl.out d h <;> cases q' : Pl.out d (tn h' 1) <;> rw [q, q'] at w <;> first | rfl | exact absurd rfl w
  ·rw [o2]; cases q : Pl.out d h <;> cases q' : Pl.out d (tn h' 1) <;> rw [q, q'] at w <;> first | rfl | exact absurd rfl w
 obtain ⟨a0, b0⟩ := key t.l0 T.ah0 l1
 obtain ⟨a1, b1⟩ := key l1 T.ah1 l2
 obtain ⟨a2, b2⟩ := key l2 T.ah2 t.l0
 by_cases hm : x ∈ [h0, h1, h2, tn h0 1, tn h1 1, tn h2 1, tn h0 2, tn h1 2, tn h2 2, tn h0 3, tn h1 3, tn h2 3]
 ·simp only [List.mem_cons, List.not_mem_nil, or_false] at hm
  rcases hm with e | e | e | e | e | e | e | e | e | e | e | e <;> rw [e]
  ·rw [T.th0, b0]
  ·rw [T.th1, b1]
  ·rw [T.th2, b2]
  ·rw [T.tp0, a2]
  ·rw [T.tp1, a0]
  ·rw [T.tp2, a1]
  ·rw [T.tu0, a0]
  ·rw [T.tu1, a1]
  ·rw [T.tu2, a2]
  ·rw [T.tv0, b2]
  ·rw [T.tv1, b0]
  ·rw [T.tv2, b1]
 ·rw [T.tx x hm]
/-- A slide keeps a diagram valid. -/
theorem Tr.valid {d d' : Dg} (hd : Valid d) {h0 h1 h2 : Nat} (t : Tr d h0 h1 h2) (sg : d'.sg = d.sg) (lp : d'.lp = d.lp) (len : d'.mt.length = 4 * d.n) (hm : ∀ x, x < 4 * d.n → d'.m x = cj (tu h0 h1 h2) d.m x) : Valid d' := by
 have hv := Valid.iff.1 hd
 have T := t.tri hv.1
 have hn : d'.n = d.n := by unfold Dg.n; rw [sg]
 have hs : ∀ c, d'.s c = d.s c := fun c => by unfold Dg.s; rw [sg]
 have ho : ∀ x, Pl.out d' x = Pl.out d x := fun x => out_old (hs _)
 have hj := hv.1.hm.cj (t := tu h0 h1 h2) T.tS (fun x _ => T.tt x)
 have tl : ∀ x, x < 4 * d.n → tu h0 h1 h2 x < 4 * d.n := fun x hx => T.tS x hx
 refine Valid.iff.2 ⟨wf_by (by rw [hn]; exact hv.1.few) (by rw [hn]; exact len) (by rw [lp]; exact hv.1.lp) (fun c hc => by rw [hs]; exact hv.1.sign c (by rw [← hn]; exact hc)) (fun z hz => ?_), ?_⟩
 ·rw [hn] at hz ⊢
  have hz2 : cj (tu h0 h1 h2) d.m z < 4 * d.n := hj.ab.maps z hz
  rw [hm z hz, hm _ hz2, ho, ho]
  refine ⟨hz2, hj.inv z hz, ?_⟩
  unfold cj
  have h1 := tl z hz
  rw [t.out hv.1 (hv.1.lt _ h1), ← t.out hv.1 hz]
  exact hv.1.way _ h1
 ·have hg := T.gen hv.1.hm hv.2
  have e : dart d' = dart d := by funext x; unfold dart; rw [hn]
  rw [e]
  exact Gen.congr (hj.congr (fun _ _ => rfl) (fun _ _ => rfl) |> fun _ => (⟨hv.1.hm.rb, hj.ab, hj.inv⟩ : Hm (4 * d.n) (dart d) rot (cj (tu h0 h1 h2) d.m))) (fun _ _ => rfl) (fun x hx => (hm x hx).symm) hg
end Go.Proofs.YtcaoblilkgajoaaDoor.Pl
end
section
namespace Go.Proofs.YtcaoblilkgajoaaDoor.Pl
section
variable {S : Nat → Prop} {r a t : Nat → Nat} {h0 h1 h2 p0 p1 p2 u0 u1 u2 v0 v1 v2 : Nat}
theorem perm_flip : [u0, u1, u2, v0, v1, v2, h0, h1, h2, p0, p1, p2].Perm [h0, h1, h2, p0, p1, p2, u0, u1, u2, v0, v1, v2] :=
 List.perm_append_comm (l₁ := [u0, u1, u2, v0, v1, v2]) (l₂ := [h0, h1, h2, p0, p1, p2])
/-- The triangle on the other side. -/
theorem Tri.flip (T : Tri S r a t h0 h1 h2 p0 p1 p2 u0 u1 u2 v0 v1 v2) : Tri S r (cj t a) t u0 u1 u2 v0 v1 v2 h0 h1 h2 p0 p1 p2 := by
 refine ⟨fun x hx => T.mem x (perm_flip.mem_iff.1 hx), T.rp0, T.rp1, T.rp2, T.rh0, T.rh1, T.rh2, T.rv0, T.rv1, T.rv2, T.ru0, T.ru1, T.ru2, ?_, ?_, ?_, ?_, ?_, ?_, ?_, T.th0, T.th1, T.th2, T.tv1, T.tv2, T.tv0, T.tp0, T.tp1, T.tp2, T.tu2, T.tu0, T.tu1, fun x hx => T.tx x (fun h => hx (perm_flip.mem_iff.2 h))⟩
 ·unfold cj; rw [T.tu0, T.ap1, T.th0]
 ·unfold cj; rw [T.tu1, T.ap2, T.th1]
 ·unfold cj; rw [T.tu2, T.ap0, T.th2]
 ·unfold cj; rw [T.tv1, T.ah0, T.tp1]
 ·unfold cj; rw [T.tv2, T.ah1, T.tp2]
 ·unfold cj; rw [T.tv0, T.ah2, T.tp0]
 ·exact perm_flip.nodup_iff.2 T.nd
/-- The exchange is determined. -/
theorem Tri.uniq {S' : Nat → Prop} {r' a' t' : Nat → Nat} (T : Tri S r a t h0 h1 h2 p0 p1 p2 u0 u1 u2 v0 v1 v2) (T' : Tri S' r' a' t' h0 h1 h2 p0 p1 p2 u0 u1 u2 v0 v1 v2) (x : Nat) : t x = t' x := by
 by_cases hx : x ∈ [h0, h1, h2, p0, p1, p2, u0, u1, u2, v0, v1, v2]
 ·simp only [List.mem_cons, List.not_mem_nil, or_false] at hx
  rcases hx with rfl | rfl | rfl | rfl | rfl | rfl | rfl | rfl | rfl | rfl | rfl | rfl
  ·rw [T.th0, T'.th0]
  ·rw [T.th1, T'.th1]
  ·rw [T.th2, T'.th2]
  ·rw [T.tp0, T'.tp0]
  ·rw [T.tp1, T'.tp1]
  ·rw [T.tp2, T'.tp2]
  ·rw [T.tu0, T'.tu0]
  ·rw [T.tu1, T'.tu1]
  ·rw [T.tu2, T'.tu2]
  ·rw [T.tv0, T'.tv0]
  ·rw [T.tv1, T'.tv1]
  ·rw [T.tv2, T'.tv2]
 ·rw [T.tx x hx, T'.tx x hx]
end
/-- The joins of a slide, the outer half-edges one after the other. -/
structure Sj (N : Nat) (m f : Nat → Nat) (Ou In : Nat → Prop) : Prop where
 lt : ∀ x, x < N → m x < N
 inv : ∀ x, x < N → m (m x) = x
 fl : ∀ x, x < N → f x < N
 ff : ∀ x, f (f x) = x
 fO : ∀ x, Ou x → In (f x)
 fx : ∀ x, ¬ Ou x → ¬ In x → f x = x
 fI : ∀ x, In x → Ou (f x)
 mI : ∀ x, In x → In (m x)
 no : ∀ x, Ou x → ¬ In x
variable {N : Nat} {m f : Nat → Nat} {Ou In : Nat → Prop}
theorem Sj.far (h : Sj N m f Ou In) {u : Nat} (hu : u < N) (ho : Ou u) (hm : ¬ Ou (m u)) : f (m u) = m u :=
 h.fx _ hm (fun hi => h.no u ho (by have := h.mI _ hi; rwa [h.inv u hu] at this))
theorem Sj.step (h : Sj N m f Ou In) {l : List Nat} {k : Nat} (hl : Half N m (cj f m) (fun x => ∃ u, u < k ∧ Ou u ∧ (x = f u ∨ x = f (m u))) l) (hk : k < N) (ho : Ou k) :
 Half N m (cj f m) (fun x => ∃ u, u < k + 1 ∧ Ou u ∧ (x = f u ∨ x = f (m u))) ((l.set (f k) (f (m k))).set (f (m k)) (f k)) := by
 refine (hl.join (h.fl _ hk) (h.fl _ (h.lt _ hk)) (by unfold cj; rw [h.ff]) (by unfold cj; rw [h.ff, h.inv k hk])).mono ?_
 rintro x ⟨u, hu, hou, hx⟩
 by_cases e : u = k
 ·subst e
  exact hx.elim (fun h => .inr (.inl h)) (fun h => .inr (.inr h))
 ·exact .inl ⟨u, by omega, hou, hx⟩
theorem Sj.skip {l : List Nat} {k : Nat} (hl : Half N m (cj f m) (fun x => ∃ u, u < k ∧ Ou u ∧ (x = f u ∨ x = f (m u))) l) (ho : ¬ Ou k) :
 Half N m (cj f m) (fun x => ∃ u, u < k + 1 ∧ Ou u ∧ (x = f u ∨ x = f (m u))) l := by
 refine hl.mono ?_
 rintro x ⟨u, hu, hou, hx⟩
 by_cases e : u = k
 ·subst e; exact absurd hou ho
 ·exact ⟨u, by omega, hou, hx⟩
/-- .. and all of them, with the outer ones joined too. -/
theorem Sj.all (h : Sj N m f Ou In) {l : List Nat} {W : Nat → Prop} (hl : Half N m (cj f m) W l) (hw : ∀ u, u < N → Ou u → W (f u) ∧ W (f (m u)) ∧ W u) : ∀ x, x < N → l.getD x 0 = cj f m x := by
 refine hl.all (fun x hx => ?_)
 by_cases h1 : Ou x
 ·exact .inl (hw x hx h1).2.2
 ·by_cases h2 : In x
  ·have := (hw (f x) (h.fl x hx) (h.fI x h2)).1
   rw [h.ff] at this
   exact .inl this
  ·have e := h.fx x h1 h2
   by_cases h3 : Ou (m x)
   ·have := (hw (m x) (h.lt x hx) h3).2.1
    rw [h.inv x hx, e] at this
    exact .inl this
   ·have h4 : ¬ In (m x) := fun hi => h2 (by have := h.mI _ hi; rwa [h.inv x hx] at this)
    refine .inr ?_
    unfold cj
    rw [e, h.fx _ h3 h4]
end Go.Proofs.YtcaoblilkgajoaaDoor.Pl
end
section
namespace Go.Proofs.YtcaoblilkgajoaaDoor
open Go Go.RowKit
/-- Both ends of an edge, whichever its direction. -/
theorem ends {d : Pl.Dg} (hd : Pl.Wf d) {h k q : Nat} (hl : th d h k < 4 * d.n) (hq : d.m (th d h k) = Pl.tn q 1) :
 (sb d h k = Pl.tn (th d h k) 2 ∧ so d h k = th d h k ∧ si d h k = Pl.tn q 1 ∧ sf d h k = Pl.tn q 3) ∨ (sb d h k = Pl.tn q 3 ∧ so d h k = Pl.tn q 1 ∧ si d h k = th d h k ∧ sf d h k = Pl.tn (th d h k) 2) := by
 have e3 : Pl.tn (Pl.tn q 1) 2 = Pl.tn q 3 := Pl.tn_tn _ _ _
 by_cases ho : Pl.out d (th d h k) = true
 ·left
  have e1 : eo d (th d h k) = th d h k := by unfold eo; rw [if_pos ho]
  have e2 : ei d (th d h k) = Pl.tn q 1 := by unfold ei; rw [e1, hq]
  exact ⟨by unfold sb; rw [e1], e1, e2, by unfold sf; rw [e2, e3]⟩
 ·right
  have e1 : eo d (th d h k) = Pl.tn q 1 := by unfold eo; rw [if_neg ho, hq]
  have e2 : ei d (th d h k) = th d h k := by unfold ei; rw [e1, ← hq, hd.inv _ hl]
  exact ⟨by unfold sb; rw [e1, e3], e1, e2, by unfold sf; rw [e2]⟩
theorem setB (l : List Bool) (a x : Nat) (ha : a < l.length) : (l.set a true).getD x false = if x = a then true else l.getD x false := by
 rw [List.getD_eq_getElem?_getD, List.getElem?_set, List.getD_eq_getElem?_getD]
 by_cases h : a = x
 ·subst h; simp [ha]
 ·rw [if_neg h, if_neg (Ne.symm h)]
section
variable {d : Pl.Dg} {h : Nat}
end
end Go.Proofs.YtcaoblilkgajoaaDoor
end
section
namespace Go.Proofs.YtcaoblilkgajoaaDoor
open Go Go.RowKit
attribute [local go_sem ↓] Go.wp_at_zero Go.wp_at_succ
def Mv.cells (m : Mv) : List Value := [.int .i64 m.kind, .int .i64 m.x, .int .i64 m.y, .int .i64 m.sign, .bool m.over]
def mvs (ms : List Mv) : List Value := ms.flatMap Mv.cells
theorem mvs_app (ms : List Mv) (m : Mv) : mvs (ms ++ [m]) = mvs ms ++ m.cells := by unfold mvs; simp
section
variable {w W W' W2 : World} {gd gl : Nat} {dv : List Value} {v v' : Value} {ms : List Mv} {m : Mv}
theorem own_below {base : Nat} {e : TypeId} {size n : Nat} {xs : List Value} (h : W.ownsRow base e size v n xs) (hb : Below W.heap.size W W') : W'.ownsRow base e size v n xs := by
 refine ⟨h.1, ?_⟩
 rcases h.2 with hz | ⟨g, cap, cur, r1, r2, r3, r4⟩
 ·exact .inl hz
 ·exact .inr ⟨g, cap, cur, r1, r2, (hb.block g (lt_of_heap r3)).trans r3, r4⟩
end
/-- One slide, if there is one at h that is the least of its triangle. -/
def slP (d : Pl.Dg) (h : Nat) : Prop := h ≤ th d h 1 ∧ h ≤ th d h 2 ∧ isT d h
open Classical in
noncomputable def slOne (d : Pl.Dg) (h : Nat) : List Mv := if slP d h then [⟨5, h, 0, 0, false⟩] else []
/-- All slides among the first k half-edges. -/
noncomputable def slL (d : Pl.Dg) : Nat → List Mv
 | 0 => []
 | k + 1 => slL d k ++ slOne d k
end Go.Proofs.YtcaoblilkgajoaaDoor
end
section
namespace Go.Proofs.YtcaoblilkgajoaaDoor
open Go Go.RowKit
attribute [local go_sem ↓] Go.wp_at_zero Go.wp_at_succ
section
variable {w W W' W2 : World} {T : TypeId} {gd gl : Nat} {dv : List Value} {v v' : Value} {ms : List Mv} {m : Mv}
end
/-- The move, if the code is 0. -/
def one (c : Int) (m : Mv) : List Mv := if c = 0 then [m] else []
end Go.Proofs.YtcaoblilkgajoaaDoor
end
section
namespace Go.Proofs.YtcaoblilkgajoaaDoor
open Go Go.RowKit
attribute [local go_sem ↓] Go.wp_at_zero Go.wp_at_succ
/-- What Apply answers at a valid diagram: the code, the diagram, the inverse. -/
noncomputable def apC (d : Pl.Dg) (m : Mv) : Int :=
 if m.kind < 1 ∨ 5 < m.kind then 11 else if Pl.vb (inR d.n m) = false then 2 else if m.kind = 1 then curlableC d m.x else if m.kind = 2 then uncC d m.x.toNat else if m.kind = 3 then pkQ d m.x m.y m.sign else if m.kind = 4 then unpC d m.x.toNat m.y.toNat else sldC d m.x.toNat
def apD (d : Pl.Dg) (m : Mv) : Pl.Dg :=
 if m.kind = 1 then crl d m.x m.sign m.over else if m.kind = 2 then unD d m.x.toNat else if m.kind = 3 then pkD d m.x m.y m.sign m.over else if m.kind = 4 then unpD d m.x.toNat m.y.toNat else sldD d m.x.toNat
end Go.Proofs.YtcaoblilkgajoaaDoor
end
section
namespace Go.Proofs.YtcaoblilkgajoaaDoor
open Go Go.RowKit
theorem valid_empty {l : Nat} (h : l ≤ 64) : Pl.Valid ⟨[], [], l⟩ :=
 ⟨⟨Nat.zero_le 64, rfl, h, fun c hc => absurd hc (Nat.not_lt_zero _), fun c hc => absurd hc (by show ¬ c < 4 * 0; omega), fun c hc => absurd hc (by show ¬ c < 4 * 0; omega), fun c hc => absurd hc (by show ¬ c < 4 * 0; omega), fun c hc => absurd hc (by show ¬ c < 4 * 0; omega)⟩, fun c hc => absurd hc (Nat.not_lt_zero _)⟩
/-- Two loops, pushed over each other. -/
def two : Pl.Dg := ⟨[-1, 1], [6, 5, 4, 7, 2, 1, 0, 3], 0⟩
theorem two_is : pkD ⟨[], [], 2⟩ (-1) (-1) 0 false = two := by rfl
end Go.Proofs.YtcaoblilkgajoaaDoor
end
section
namespace Go.Proofs.YtcaoblilkgajoaaDoor
open Go Go.RowKit
theorem none_at (w : World) (l : Nat) : DgAt w none none ⟨[], [], l⟩ := ⟨RowAt.nil w, RowAt.nil w⟩
end Go.Proofs.YtcaoblilkgajoaaDoor
end
section
namespace Go.Proofs.YtcaoblilkgajoaaDoor
open Go Go.RowKit
attribute [local go_sem ↓] Go.wp_at_zero Go.wp_at_succ
section
variable {P : Program} (w : World)
/-- A slice whose elements' cells are known. -/
def SrcAt (w : World) (A : Option Addr) (m : Nat) (xs : List Value) : Prop := xs.length = m * 5 ∧ (0 < m → ∃ b o, A = some ⟨b, o, none⟩ ∧ ∀ (j : Nat) u, xs[j]? = some u → w.cell? ⟨b, o + j, none⟩ = some u) ∧ ∀ u ∈ xs, u.oneCell' = true
theorem SrcAt.keep {w w' : World} {A : Option Addr} {m : Nat} {xs : List Value} (h : SrcAt w A m xs) (hb : Below w.heap.size w w') : SrcAt w' A m xs :=
 ⟨h.1, fun hp => let ⟨b, o, e, hc⟩ := h.2.1 hp; ⟨b, o, e, fun j u hu => cell_below (hc j u hu) hb⟩, h.2.2⟩
end
def cuN (x : Int) : List Mv := [⟨1, x, 0, -1, false⟩, ⟨1, x, 0, -1, true⟩, ⟨1, x, 0, 1, false⟩, ⟨1, x, 0, 1, true⟩]
def cuC : Nat → List Mv
 | 0 => []
 | k + 1 => cuC k ++ cuN ((k : Int) - 1)
def unC : Nat → List Mv
 | 0 => []
 | k + 1 => unC k ++ [⟨2, k, 0, 0, false⟩]
def pkN (x y : Int) : Nat → List Mv
 | 0 => []
 | j + 1 => pkN x y j ++ [⟨3, x, y, (j : Int) - 1, false⟩, ⟨3, x, y, (j : Int) - 1, true⟩]
def pkNY (x : Int) : Nat → List Mv
 | 0 => []
 | k + 1 => pkNY x k ++ pkN x ((k : Int) - 2) 3
def pkNX (n : Nat) : Nat → List Mv
 | 0 => []
 | k + 1 => pkNX n k ++ pkNY ((k : Int) - 2) (4 * n + 2)
def upN (x : Nat) : Nat → List Mv
 | 0 => []
 | k + 1 => upN x k ++ (if x < k then [⟨4, x, k, 0, false⟩] else [])
def upNX (n : Nat) : Nat → List Mv
 | 0 => []
 | k + 1 => upNX n k ++ upN k n
/-- Those that can be applied. -/
noncomputable def sel (d : Pl.Dg) (l : List Mv) : List Mv := l.flatMap (fun m => one (apC d m) m)
section
variable {d : Pl.Dg} {F P : List Nat}
end
noncomputable def allL (d : Pl.Dg) : List Mv := sel d (cuC (4 * d.n + 1)) ++ sel d (unC d.n) ++ sel d (pkNX d.n (4 * d.n + 2)) ++ sel d (upNX d.n d.n) ++ slL d (4 * d.n)
end Go.Proofs.YtcaoblilkgajoaaDoor
end
section
namespace Go.Proofs.YtcaoblilkgajoaaDoor
open Go Go.RowKit
attribute [local go_sem ↓] Go.wp_at_zero Go.wp_at_succ
theorem mvs_apps (ms r : List Mv) : mvs (ms ++ r) = mvs ms ++ mvs r := by unfold mvs; rw [List.flatMap_append]
section
variable {w W W' W2 : World} {dv : List Value} {b : Nat} {v v' : Value} {ms r : List Mv}
end
end Go.Proofs.YtcaoblilkgajoaaDoor
end
section
namespace Go.Proofs.YtcaoblilkgajoaaDoor
open Go Go.RowKit
attribute [local go_sem ↓] Go.wp_at_zero Go.wp_at_succ
theorem mv_get : ∀ (ms : List Mv) (j : Nat) (z : Mv), ms[j]? = some z → ∀ (i : Nat) (u : Value), z.cells[i]? = some u → (mvs ms)[j * 5 + i]? = some u
 | [], j, z, h, _, _, _ => by cases h
 | m :: ms, 0, z, h, i, u, hu => by
   obtain rfl : m = z := by simpa using h
   have hi : i < m.cells.length := (List.getElem?_eq_some_iff.1 hu).1
   show (m.cells ++ mvs ms)[0 * 5 + i]? = some u
   rw [Nat.zero_mul, Nat.zero_add, List.getElem?_append_left hi, hu]
 | m :: ms, j + 1, z, h, i, u, hu => by
   have ih := mv_get ms j z (by simpa using h) i u hu
   show (m.cells ++ mvs ms)[(j + 1) * 5 + i]? = some u
   have e : m.cells.length = 5 := rfl
   rw [List.getElem?_append_right (by rw [e]; omega), e, ← ih]
   congr 1
   omega
/-- A slice of moves, by its cells. -/
def MovesV (w : World) (A : Option Addr) (n : Nat) (ms : List Mv) : Prop := n = ms.length ∧ (0 < n → ∃ g, A = some ⟨g, 0, none⟩ ∧ g < w.heap.size ∧ ∀ (j : Nat) (z : Mv), ms[j]? = some z → ∀ (i : Nat) (u : Value), z.cells[i]? = some u → w.cell? ⟨g, j * 5 + i, none⟩ = some u)
theorem MovesV.keep {w w' : World} {A : Option Addr} {n : Nat} {ms : List Mv} (h : MovesV w A n ms) (hb : Below w.heap.size w w') : MovesV w' A n ms :=
 ⟨h.1, fun hp => let ⟨g, e, hl, hc⟩ := h.2 hp; ⟨g, e, Nat.lt_of_lt_of_le hl hb.size, fun j z hz i u hu => cell_below (hc j z hz i u hu) hb⟩⟩
theorem MovesV.nil (w : World) (A : Option Addr) : MovesV w A 0 [] := ⟨rfl, fun h => absurd h (by omega)⟩
theorem MovesV.at_ {w : World} {A : Option Addr} {n j : Nat} {ms : List Mv} (h : MovesV w A n ms) (hj : j < n) : ∃ g k x y s o, A = some ⟨g, 0, none⟩ ∧ g < w.heap.size ∧ ms[j]? = some ⟨k, x, y, s, o⟩ ∧ w.cell? ⟨g, j * 5, none⟩ = some (.int .i64 k) ∧ w.cell? ⟨g, j * 5 + 1, none⟩ = some (.int .i64 x) ∧ w.cell? ⟨g, j * 5 + 2, none⟩ = some (.int .i64 y) ∧ w.cell? ⟨g, j * 5 + 3, none⟩ = some (.int .i64 s) ∧ w.cell? ⟨g, j * 5 + 4, none⟩ = some (.bool o) := by
 obtain ⟨g, e, hl, hc⟩ := h.2 (by omega)
 obtain ⟨z, hz⟩ : ∃ z, ms[j]? = some z := ⟨_, List.getElem?_eq_getElem (by rw [← h.1]; exact hj)⟩
 obtain ⟨k, x, y, s, o⟩ := z
 exact ⟨g, k, x, y, s, o, e, hl, hz, hc j _ hz 0 _ rfl, hc j _ hz 1 _ rfl, hc j _ hz 2 _ rfl, hc j _ hz 3 _ rfl, hc j _ hz 4 _ rfl⟩
end Go.Proofs.YtcaoblilkgajoaaDoor
end
section
namespace Go.Proofs.YtcaoblilkgajoaaDoor
open Go Go.RowKit
attribute [local go_sem ↓] Go.wp_at_zero Go.wp_at_succ
/-- By how much a move of a kind adds crossings. -/
def gro (k : Int) : Int := if k = 1 then 1 else if k = 2 then -1 else if k = 3 then 2 else if k = 4 then -2 else 0
def dels (n : Nat) (most : Int) (z : Mv) : Bool := decide (most < n + gro z.kind)
/-- The two boxes that the closure holds. -/
structure CB (W : World) (g1 g2 : Nat) (n : Nat) (most : Int) : Prop where
 n : Row W g1 3 [.int .i64 (n : Int)]
 m : Row W g2 3 [.int .i64 most]
theorem CB.below {W W' : World} {g1 g2 n : Nat} {most : Int} (h : CB W g1 g2 n most) (hb : Below W.heap.size W W') : CB W' g1 g2 n most := ⟨h.n.below hb, h.m.below hb⟩
theorem set5 (m : Mv) (r : List Value) (j : Nat) (v : Value) : (m.cells ++ r).set (j + 5) v = m.cells ++ r.set j v := rfl
theorem mvs_set : ∀ (R : List Mv) (i : Nat) (z : Mv), i < R.length → (((((mvs R).set (i * 5) (.int .i64 z.kind)).set (i * 5 + 1) (.int .i64 z.x)).set (i * 5 + 2) (.int .i64 z.y)).set (i * 5 + 3) (.int .i64 z.sign)).set (i * 5 + 4) (.bool z.over) = mvs (R.set i z)
 | [], i, z, h => absurd h (by simp)
 | m :: R, 0, z, _ => rfl
 | m :: R, i + 1, z, h => by
   have ih := mvs_set R i z (by simpa using h)
   show (((((m.cells ++ mvs R).set ((i + 1) * 5) (.int .i64 z.kind)).set ((i + 1) * 5 + 1) (.int .i64 z.x)).set ((i + 1) * 5 + 2) (.int .i64 z.y)).set ((i + 1) * 5 + 3) (.int .i64 z.sign)).set ((i + 1) * 5 + 4) (.bool z.over) = m.cells ++ mvs (R.set i z)
   rw [← ih]
   have a0 : (i + 1) * 5 = i * 5 + 5 := by omega
   have a1 : i * 5 + 5 + 1 = (i * 5 + 1) + 5 := by omega
   have a2 : i * 5 + 5 + 2 = (i * 5 + 2) + 5 := by omega
   have a3 : i * 5 + 5 + 3 = (i * 5 + 3) + 5 := by omega
   have a4 : i * 5 + 5 + 4 = (i * 5 + 4) + 5 := by omega
   rw [a0, a1, a2, a3, a4, set5, set5, set5, set5, set5]
end Go.Proofs.YtcaoblilkgajoaaDoor
end
section
namespace Go.Proofs.YtcaoblilkgajoaaDoor
open Go Go.RowKit
attribute [local go_sem ↓] Go.wp_at_zero Go.wp_at_succ
/-- The moves that are kept. -/
def keepM (n : Nat) (most : Int) (l : List Mv) : List Mv := l.filter (fun z => !dels n most z)
theorem keepM_s {n : Nat} {most : Int} {l : List Mv} {j : Nat} {z : Mv} (h : l[j]? = some z) : keepM n most (l.take (j + 1)) = keepM n most (l.take j) ++ if dels n most z then [] else [z] := by
 unfold keepM
 obtain ⟨hq, e⟩ := List.getElem?_eq_some_iff.1 h
 rw [List.take_succ_eq_append_getElem hq, List.filter_append, e]
 cases hd : dels n most z <;> simp [List.filter_cons, hd]
section
variable {w W W' : World} {B b g N c g1 g2 n j i : Nat} {most : Int} {ms R : List Mv}
theorem row_sets {W : World} {g g' : Nat} {t : TypeId} {vs : List Value} (h : Row W g t vs) (hne : g ≠ g') (a0 a1 a2 a3 a4 : Nat) (v0 v1 v2 v3 v4 : Value) : Row (((((W.setCell ⟨g', a0, none⟩ v0).setCell ⟨g', a1, none⟩ v1).setCell ⟨g', a2, none⟩ v2).setCell ⟨g', a3, none⟩ v3).setCell ⟨g', a4, none⟩ v4) g t vs :=
 ((((h.other hne _).other hne _).other hne _).other hne _).other hne _
end
end Go.Proofs.YtcaoblilkgajoaaDoor
end
section
namespace Go.Proofs.YtcaoblilkgajoaaDoor
open Go Go.RowKit
attribute [local go_sem ↓] Go.wp_at_zero Go.wp_at_succ
section
variable {w W W' W2 : World} {vR vS : Value} {rs ss : List Mv} {m : Mv} {g n c : Nat}
theorem apart {v u : Value} (ne : ∀ g, v.ownBlock = some g → u.ownBlock = some g → False) : u.ownBlock = none ∨ u.ownBlock ≠ v.ownBlock := by
 cases hu : u.ownBlock with
 | none => exact .inl rfl
 | some g => exact .inr (fun e => ne g e.symm hu)
end
end Go.Proofs.YtcaoblilkgajoaaDoor
end
section
namespace Go.Proofs.YtcaoblilkgajoaaDoor
open Go Go.RowKit
attribute [local go_sem ↓] Go.wp_at_zero Go.wp_at_succ
/-- The choices of a walk at a valid diagram. -/
noncomputable def chL (d : Pl.Dg) (most : Int) : List Mv := keepM d.n most (allL d)
/-- The number of a choice. -/
def chI (c : Int) (n : Nat) : Nat := ((c.tmod n + n).tmod n).toNat
theorem chI_v {c : Int} {n : Nat} (hn : 0 < n) : -(n : Int) < c.tmod n ∧ c.tmod n < n ∧ (c.tmod n + n).tmod n = (chI c n : Int) ∧ chI c n < n := by
 have h1 : -(n : Int) < c.tmod n := by
  have e := Int.neg_tmod c (n : Int)
  have := Int.tmod_lt_of_pos (-c) (show (0 : Int) < n by omega)
  omega
 have h2 : c.tmod n < n := Int.tmod_lt_of_pos c (by omega)
 have h3 : 0 ≤ (c.tmod n + n).tmod n := Int.tmod_nonneg _ (by omega)
 have h4 : (c.tmod n + n).tmod n < n := Int.tmod_lt_of_pos _ (by omega)
 unfold chI
 omega
def ChPost (L : List Mv) (c : Int) (w : World) (e : Ending) (w' : World) : Prop :=
 (L = [] → e = .returned (.tuple #[nilM, .bool false])) ∧ (∀ z, L[chI c L.length]? = some z → e = .returned (.tuple #[z.v, .bool true])) ∧ Below w.heap.size w w'
theorem ChPost.split {L : List Mv} {c : Int} {w w' : World} {e : Ending} (h : ChPost L c w e w') : (L = [] ∧ e = .returned (.tuple #[.agg #[.int .i64 0, .int .i64 0, .int .i64 0, .int .i64 0, .bool false], .bool false]) ∧ Below w.heap.size w w') ∨ ∃ k x y s o, L[chI c L.length]? = some ⟨k, x, y, s, o⟩ ∧ e = .returned (.tuple #[.agg #[.int .i64 k, .int .i64 x, .int .i64 y, .int .i64 s, .bool o], .bool true]) ∧ Below w.heap.size w w' := by
 rcases Nat.eq_zero_or_pos L.length with h0 | h0
 ·have := List.eq_nil_of_length_eq_zero h0
  exact .inl ⟨this, h.1 this, h.2.2⟩
 ·obtain ⟨z, hz⟩ : ∃ z, L[chI c L.length]? = some z := ⟨_, List.getElem?_eq_getElem (chI_v h0).2.2.2⟩
  obtain ⟨k, x, y, s, o⟩ := z
  exact .inr ⟨k, x, y, s, o, hz, h.2.1 _ hz, h.2.2⟩
end Go.Proofs.YtcaoblilkgajoaaDoor
end
section
namespace Go.Proofs.YtcaoblilkgajoaaDoor
open Go Go.RowKit
attribute [local go_sem ↓] Go.wp_at_zero Go.wp_at_succ
theorem row3 {W : World} {g : Nat} {t : TypeId} {vs : List Value} (h : Row W g t vs) (l : vs.length = 3) (y0 y1 y2 : Value) :
 Row (((W.setCell ⟨g, 0, none⟩ y0).setCell ⟨g, 1, none⟩ y1).setCell ⟨g, 2, none⟩ y2) g t [y0, y1, y2] := by
 obtain ⟨a, b, c, rfl⟩ : ∃ a b c, vs = [a, b, c] := by
  match vs, l with
  | [a, b, c], _ => exact ⟨a, b, c, rfl⟩
 exact ((h.set 0 y0).set 1 y1).set 2 y2
def set3 (W : World) (g : Nat) (y0 y1 y2 : Value) : World := ((W.setCell ⟨g, 0, none⟩ y0).setCell ⟨g, 1, none⟩ y1).setCell ⟨g, 2, none⟩ y2
theorem DgT.set3 {W : World} {A B : Option Addr} {d : Pl.Dg} {g : Nat} {vs : List Value} (h : DgT W A B d) (hr : Row W g 28 vs) (y0 y1 y2 : Value) : DgT (((W.setCell ⟨g, 0, none⟩ y0).setCell ⟨g, 1, none⟩ y1).setCell ⟨g, 2, none⟩ y2) A B d :=
 ((h.store hr (by decide) y0).store (hr.set 0 y0) (by decide) y1).store ((hr.set 0 y0).set 1 y1) (by decide) y2
end Go.Proofs.YtcaoblilkgajoaaDoor
end
section
namespace Go.Proofs.YtcaoblilkgajoaaDoor.Pl
variable {N : Nat} {S : Nat → Prop} {r a : Nat → Nat}
/-- BYPASSED: u and v lie in one face, u leads to x, v to y: then x may lead to y at once. -/
theorem Flat.bypass (h : Hm N S r a) {x y u v : Nat} (hx : S x) (hy : S y) (hu : S u) (hv : S v) (hxy : x ≠ y) (huv : u ≠ v) (xu : x ≠ u) (xv : x ≠ v) (yu : y ≠ u) (yv : y ≠ v)
 (fx : a x = x) (fy : a y = y) (fu : a u = u) (fv : a v = v) (ho : Orb (phi r a) u v) (hf : Flat S r (tr (tr a u x) v y)) : Flat S r (tr a x y) := by
 have h1 := h.tr hu hx fu fx
 have fv1 : tr a u x v = v := by rw [tr_ne (Ne.symm huv) (Ne.symm xv), fv]
 have fy1 : tr a u x y = y := by rw [tr_ne yu (Ne.symm hxy), fy]
 obtain ⟨f1, k1⟩ := Flat.del h1 hv hy (Ne.symm yv) fv1 fy1 hf
 obtain ⟨f0, k0⟩ := Flat.del h hu hx (Ne.symm xu) fu fx f1
 have cuv := orb_phi_con ho
 have ovu := h.pb.symm hu ho
 have cvu := orb_phi_con ovu
 refine Flat.add h hx hy hxy fx fy (fun hc => ?_) f0
 have c2 : Con r (tr a u x) v y := (h.con_tr hu hx fu fx hv).2 (.inr (.inl ⟨cvu, hc⟩))
 have o2 := k1 c2
 by_cases oux : Orb (phi r a) u x
 ·have sub : Orb (phi r a) v y := by
   rw [phi_tr] at o2
   refine orb_sub (h.pb.tr hu hx) h.pb.eqv (fun z hz => ?_) hv o2
   by_cases z1 : z = u
   ·subst z1; rw [tr_a]; exact oux.trans (Orb.step _ _)
   ·by_cases z2 : z = x
    ·subst z2; rw [tr_b]; exact (h.pb.symm hu oux).trans (Orb.step _ _)
    ·rw [tr_ne z1 z2]; exact Orb.step _ _
  exact (h.pb.symm hu oux).trans (ho.trans sub)
 ·rw [phi_tr, h.pb.merge hu hx oux hv] at o2
  rcases o2 with e | ⟨_, e⟩ | ⟨e, _⟩
  ·exact absurd (k0 ((orb_phi_con (ho.trans e)).trans (h.con_symm hx hc))) oux
  ·exact e
  ·exact absurd (ho.trans e) oux
/-- Both edges cut. -/
def cut2 (a : Nat → Nat) (u v : Nat) : Nat → Nat := tr (tr a u (a u)) v (a v)
/-- What becomes of the edges when u and v are bypassed. -/
def byp (a : Nat → Nat) (u v : Nat) : Nat → Nat := tr (cut2 a u v) (a u) (a v)
theorem cut2_hm (h : Hm N S r a) {u v : Nat} (hu : S u) (hv : S v) (huv : u ≠ v) (nu : a u ≠ u) (nv : a v ≠ v) (nuv : a u ≠ v) :
 Hm N S r (cut2 a u v) ∧ cut2 a u v u = u ∧ cut2 a u v v = v ∧ cut2 a u v (a u) = a u ∧ cut2 a u v (a v) = a v ∧ a = tr (tr (cut2 a u v) u (a u)) v (a v) ∧ a u ≠ a v ∧ a v ≠ u := by
 have n1 : a u ≠ a v := fun e => huv (h.ab.inj _ _ hu hv e)
 have n2 : a v ≠ u := fun e => nuv (by rw [← e, h.inv v hv])
 obtain ⟨c1, c2, c3⟩ := Hm.cut h hu nu
 have e1 : tr a u (a u) v = a v := tr_ne (Ne.symm huv) (Ne.symm nuv)
 have e2 : tr a u (a u) v ≠ v := by rw [e1]; exact nv
 obtain ⟨d1, d2, d3⟩ := Hm.cut c1 hv e2
 rw [e1] at d1 d2 d3
 refine ⟨d1, ?_, d2, ?_, d3, ?_, n1, n2⟩
 ·unfold cut2; rw [tr_ne huv (Ne.symm n2), c2]
 ·unfold cut2; rw [tr_ne nuv n1, c3]
 ·unfold cut2
  funext z
  by_cases z1 : z = v
  ·subst z1
   rw [tr_a]
   rw [tr_ne n2 (Ne.symm n1), tr_b, tr_ne (Ne.symm huv) (Ne.symm nuv)]
  ·by_cases z2 : z = a v
   ·subst z2
    rw [tr_b, tr_ne (Ne.symm huv) (Ne.symm nuv), tr_a, tr_ne n2 (Ne.symm n1)]
   ·rw [tr_ne z1 z2]
    by_cases z3 : z = u
    ·subst z3
     rw [tr_a, tr_ne nuv n1, tr_b]
    ·by_cases z4 : z = a u
     ·subst z4
      rw [tr_b, tr_ne huv (Ne.symm n2), tr_a]
     ·rw [tr_ne z3 z4, tr_ne z1 z2, tr_ne z3 z4]
theorem byp_flat (h : Hm N S r a) {u v : Nat} (hu : S u) (hv : S v) (huv : u ≠ v) (nu : a u ≠ u) (nv : a v ≠ v) (nuv : a u ≠ v) (ho : Orb (phi r (cut2 a u v)) u v) (hf : Flat S r a) :
 Hm N S r (byp a u v) ∧ Flat S r (byp a u v) := by
 obtain ⟨c0, c1, c2, c3, c4, c5, c6, c7⟩ := cut2_hm h hu hv huv nu nv nuv
 have hx := h.ab.maps u hu
 have hy := h.ab.maps v hv
 exact ⟨c0.tr hx hy c3 c4, Flat.bypass c0 hx hy hu hv c6 huv nu nuv c7 nv c3 c4 c1 c2 ho (by rw [← c5]; exact hf)⟩
/-- The values of the bypassed map. -/
theorem byp_at (h : Hm N S r a) {u v : Nat} (hu : S u) (hv : S v) (huv : u ≠ v) (nu : a u ≠ u) (nv : a v ≠ v) (nuv : a u ≠ v) :
 byp a u v u = u ∧ byp a u v v = v ∧ byp a u v (a u) = a v ∧ byp a u v (a v) = a u ∧ ∀ z, z ≠ u → z ≠ v → z ≠ a u → z ≠ a v → byp a u v z = a z := by
 obtain ⟨c0, c1, c2, c3, c4, c5, c6, c7⟩ := cut2_hm h hu hv huv nu nv nuv
 unfold byp
 refine ⟨by rw [tr_ne (Ne.symm nu) (Ne.symm c7), c1], by rw [tr_ne (Ne.symm nuv) (Ne.symm nv), c2], by rw [tr_a, c4], by rw [tr_b, c3], fun z z1 z2 z3 z4 => ?_⟩
 rw [tr_ne z3 z4]
 unfold cut2
 rw [tr_ne z2 z4, tr_ne z1 z3]
theorem cut2_at (u v : Nat) {z : Nat} (z1 : z ≠ u) (z2 : z ≠ v) (z3 : z ≠ a u) (z4 : z ≠ a v) : cut2 a u v z = a z := by
 unfold cut2
 rw [tr_ne z2 z4, tr_ne z1 z3]
end Go.Proofs.YtcaoblilkgajoaaDoor.Pl
end
section
namespace Go.Proofs.YtcaoblilkgajoaaDoor.Pl
section
variable {N M : Nat} {S T : Nat → Prop} {r a r' a' t : Nat → Nat}
theorem it_map {f f' : Nat → Nat} (hS : ∀ x, S x → S (f x)) (e : ∀ x, S x → f' (t x) = t (f x)) {x : Nat} (hx : S x) : ∀ k, it f' k (t x) = t (it f k x) ∧ S (it f k x)
 | 0 => ⟨rfl, hx⟩
 | k + 1 => by
   obtain ⟨h1, h2⟩ := it_map hS e hx k
   exact ⟨by show f' (it f' k (t x)) = t (f (it f k x)); rw [h1, e _ h2], hS _ h2⟩
theorem orb_map {f f' : Nat → Nat} (hS : ∀ x, S x → S (f x)) (e : ∀ x, S x → f' (t x) = t (f x)) (inj : ∀ x y, S x → S y → t x = t y → x = y) {x y : Nat} (hx : S x) (hy : S y) : Orb f x y ↔ Orb f' (t x) (t y) := by
 constructor
 ·rintro ⟨k, rfl⟩; exact ⟨k, (it_map hS e hx k).1⟩
 ·rintro ⟨k, h⟩
  obtain ⟨h1, h2⟩ := it_map hS e hx k
  exact ⟨k, inj _ _ h2 hy (by rw [← h1, h])⟩
theorem con_map {x y : Nat} (hS : ∀ x, S x → S (r x)) (hA : ∀ x, S x → S (a x)) (er : ∀ x, S x → r' (t x) = t (r x)) (ea : ∀ x, S x → a' (t x) = t (a x)) (inj : ∀ x y, S x → S y → t x = t y → x = y) (hx : S x) (hy : S y) : Con r a x y ↔ Con r' a' (t x) (t y) := by
 have fw : ∀ {y}, Con r a x y → Con r' a' (t x) (t y) ∧ S y := by
  intro y e
  induction e with
  | refl => exact ⟨.refl, hx⟩
  | left _ ih => exact ⟨er _ ih.2 ▸ ih.1.left, hS _ ih.2⟩
  | right _ ih => exact ⟨ea _ ih.2 ▸ ih.1.right, hA _ ih.2⟩
 have bw : ∀ {v}, Con r' a' (t x) v → ∃ y, S y ∧ t y = v ∧ Con r a x y := by
  intro v e
  induction e with
  | refl => exact ⟨x, hx, rfl, .refl⟩
  | left _ ih => obtain ⟨y, h1, rfl, h3⟩ := ih; exact ⟨r y, hS _ h1, (er _ h1).symm, h3.left⟩
  | right _ ih => obtain ⟨y, h1, rfl, h3⟩ := ih; exact ⟨a y, hA _ h1, (ea _ h1).symm, h3.right⟩
 constructor
 ·intro e; exact (fw e).1
 ·intro e
  obtain ⟨y', h1, h2, h3⟩ := bw e
  rw [← inj _ _ h1 hy h2]; exact h3
theorem Gen.map (hS : ∀ x, S x → S (r x)) (hA : ∀ x, S x → S (a x)) (er : ∀ x, S x → r' (t x) = t (r x)) (ea : ∀ x, S x → a' (t x) = t (a x)) (inj : ∀ x y, S x → S y → t x = t y → x = y)
 (hto : ∀ x, S x → T (t x)) (onto : ∀ y, T y → ∃ x, S x ∧ t x = y) {z : Int} (h : Gen S r a z) : Gen T r' a' z := by
 obtain ⟨v, d, k, f, c, h1, h2, h3, h4, h5, rfl⟩ := h
 refine ⟨v, d, k, f, c, h1.map t hto onto fun x y hx hy => orb_map hS er inj hx hy, h2.map t hto onto fun x y hx hy => ⟨fun e => by rw [e], fun e => inj x y hx hy e⟩, h3.map t hto onto fun x y hx hy => orb_map hA ea inj hx hy,
  h4.map t hto onto fun x y hx hy => orb_map (fun x hx => hS _ (hA x hx)) (fun x hx => ?_) inj hx hy, h5.map t hto onto fun x y hx hy => con_map hS hA er ea inj hx hy, rfl⟩
 unfold phi
 rw [ea x hx, er _ (hA x hx)]
/-- Two parts that do not meet: flat as a whole, then each. -/
theorem Flat.sub {U : Nat → Prop} (h : Hm N S r a) (h' : Hm N T r a) (hd : ∀ x, S x → ¬ T x) (hu : ∀ x, (S x ∨ T x) ↔ U x) (hf : Flat U r a) : Flat S r a := by
 obtain ⟨z, hz⟩ := h.gen
 obtain ⟨z', hz'⟩ := h'.gen
 have n1 := Gen.nonneg h hz
 have n2 := Gen.nonneg h' hz'
 have e : (fun x => S x ∨ T x) = U := funext fun x => propext (hu x)
 have hs := Gen.add h h' hd hz hz'
 rw [e] at hs
 have := hf.unique hs
 have : z = 0 := by omega
 rw [this] at hz
 exact hz
end
def idx (gs : List Nat) (c : Nat) : Nat := c - (gs.filter (fun g => decide (g < c))).length
variable {gs : List Nat}
theorem shf_idx (hf : Few gs) (h : Nat) : shf gs h = 4 * idx gs (h / 4) + h % 4 := by
 have := hf (h / 4)
 unfold shf idx
 omega
theorem flt_succ (c : Nat) : ∀ gs : List Nat, gs.Nodup → (gs.filter (fun g => decide (g < c + 1))).length = (gs.filter (fun g => decide (g < c))).length + if c ∈ gs then 1 else 0
 | [], _ => by simp
 | g :: gs, hn => by
   obtain ⟨h1, h2⟩ := List.nodup_cons.1 hn
   have ih := flt_succ c gs h2
   rw [List.filter_cons, List.filter_cons]
   by_cases e : c = g
   ·subst e
    rw [if_neg h1] at ih
    simp [ih]
   ·by_cases e2 : g < c
    ·simp [e2, show g < c + 1 by omega, e, ih]; omega
    ·simp [e2, show ¬ g < c + 1 by omega, e, ih]
theorem left_idx (hn : gs.Nodup) (c : Nat) : (gs.filter (fun g => decide (g < c))).length + (left c gs).length = c := by
 induction c with
 | zero => simp [left]
 | succ c ih =>
   rw [flt_succ c gs hn, left_succ, List.length_append]
   by_cases e : c ∈ gs <;> simp [e] <;> omega
theorem idx_left (hn : gs.Nodup) (c : Nat) : idx gs c = (left c gs).length := by
 have := left_idx hn c
 unfold idx; omega
theorem left_get (hn : gs.Nodup) {n c : Nat} (hc : c < n) (hg : c ∉ gs) : (left n gs)[idx gs c]? = some c := by
 induction n with
 | zero => omega
 | succ n ih =>
   rw [left_succ]
   by_cases e : c = n
   ·subst e
    rw [idx_left hn, List.getElem?_append_right (Nat.le_refl _)]
    simp [hg]
   ·have h := ih (by omega)
    have hl : idx gs c < (left n gs).length := by
     rcases Nat.lt_or_ge (idx gs c) (left n gs).length with h1 | h1
     ·exact h1
     ·rw [List.getElem?_eq_none h1] at h; exact absurd h (by simp)
    rw [List.getElem?_append_left hl, h]
theorem idx_lt (hn : gs.Nodup) {n c : Nat} (hc : c < n) (hg : c ∉ gs) : idx gs c < (left n gs).length := by
 have h := left_get hn hc hg
 rcases Nat.lt_or_ge (idx gs c) (left n gs).length with h1 | h1
 ·exact h1
 ·rw [List.getElem?_eq_none h1] at h; exact absurd h (by simp)
theorem idx_onto (hn : gs.Nodup) {n i : Nat} (hi : i < (left n gs).length) : ∃ c, c < n ∧ c ∉ gs ∧ idx gs c = i := by
 induction n with
 | zero => simp [left] at hi
 | succ n ih =>
   rcases Nat.lt_or_ge i (left n gs).length with h | h
   ·obtain ⟨c, h1, h2, h3⟩ := ih h
    exact ⟨c, by omega, h2, h3⟩
   ·rw [left_succ, List.length_append] at hi
    by_cases e : n ∈ gs
    ·simp [e] at hi; omega
    ·simp [e] at hi
     exact ⟨n, by omega, e, by rw [idx_left hn]; omega⟩
theorem idx_inj (hn : gs.Nodup) {c c' : Nat} (hg : c ∉ gs) (hg' : c' ∉ gs) (e : idx gs c = idx gs c') : c = c' := by
 have h1 := left_get hn (n := c + c' + 1) (by omega) hg
 have h2 := left_get hn (n := c + c' + 1) (c := c') (by omega) hg'
 rw [e, h2] at h1
 injection h1 with h1
 exact h1.symm
theorem four_get (f : Nat → Nat) {s : Nat} (hs : s < 4) : ∀ (l : List Nat) (i : Nat), (l.flatMap (four f))[4 * i + s]? = l[i]?.map (fun c => f (4 * c + s))
 | [], i => by simp
 | c :: l, 0 => by
   rw [List.flatMap_cons]
   have : s = 0 ∨ s = 1 ∨ s = 2 ∨ s = 3 := by omega
   rcases this with rfl | rfl | rfl | rfl <;> simp [four]
 | c :: l, i + 1 => by
   have ih := four_get f hs l i
   rw [List.flatMap_cons, List.getElem?_append_right (by simp [four]; omega)]
   have : 4 * (i + 1) + s - (four f c).length = 4 * i + s := by simp [four]; omega
   rw [this, ih]
   simp
/-- The diagram of the crossings that stay. -/
def rsD (d : Dg) (gs mt : List Nat) (lp : Nat) : Dg := ⟨shrS gs d.sg, shrM gs d.n mt, lp⟩
theorem rs_n (d : Dg) (gs mt : List Nat) (lp : Nat) : (rsD d gs mt lp).n = (left d.n gs).length := shrS_len gs d.sg
theorem rs_s (hn : gs.Nodup) (d : Dg) (mt : List Nat) (lp : Nat) {c : Nat} (hc : c < d.n) (hg : c ∉ gs) : (rsD d gs mt lp).s (idx gs c) = d.s c := by
 unfold rsD Dg.s shrS
 have e := left_get hn hc hg
 unfold Dg.n at e
 rw [List.getD_eq_getElem?_getD, List.getElem?_map, e]
 rfl
theorem rs_m (hn : gs.Nodup) (hf : Few gs) (d : Dg) (mt : List Nat) (lp : Nat) {h : Nat} (hh : h < 4 * d.n) (hg : h / 4 ∉ gs) : (rsD d gs mt lp).m (shf gs h) = shf gs (mt.getD h 0) := by
 unfold rsD Dg.m shrM
 rw [List.getD_eq_getElem?_getD, shf_idx hf h, four_get _ (Nat.mod_lt _ (by omega)), left_get hn (by omega) hg]
 simp only [Option.map_some, Option.getD_some]
 rw [show 4 * (h / 4) + h % 4 = h by omega]
def stay (d : Dg) (gs : List Nat) (h : Nat) : Prop := h < 4 * d.n ∧ h / 4 ∉ gs
def gone (d : Dg) (gs : List Nat) (h : Nat) : Prop := h < 4 * d.n ∧ h / 4 ∈ gs
theorem shf_lt (hn : gs.Nodup) (hf : Few gs) {d : Dg} (mt : List Nat) (lp : Nat) {h : Nat} (hh : stay d gs h) : shf gs h < 4 * (rsD d gs mt lp).n := by
 rw [rs_n, shf_idx hf]
 have := idx_lt hn (n := d.n) (c := h / 4) (by have := hh.1; omega) hh.2
 omega
theorem shf_inj (hn : gs.Nodup) (hf : Few gs) {g h : Nat} (h1 : g / 4 ∉ gs) (h2 : h / 4 ∉ gs) (e : shf gs g = shf gs h) : g = h := by
 rw [shf_idx hf, shf_idx hf] at e
 have := idx_inj hn h1 h2 (by omega)
 omega
theorem shf_onto (hn : gs.Nodup) (hf : Few gs) {d : Dg} (mt : List Nat) (lp : Nat) {y : Nat} (hy : y < 4 * (rsD d gs mt lp).n) : ∃ h, stay d gs h ∧ shf gs h = y := by
 rw [rs_n] at hy
 obtain ⟨c, h1, h2, h3⟩ := idx_onto hn (n := d.n) (i := y / 4) (by omega)
 refine ⟨4 * c + y % 4, ⟨by omega, by rw [show (4 * c + y % 4) / 4 = c by omega]; exact h2⟩, ?_⟩
 rw [shf_idx hf, show (4 * c + y % 4) / 4 = c by omega, h3]
 omega
theorem shf_tn (hf : Few gs) (h k : Nat) : tn (shf gs h) k = shf gs (tn h k) := by
 rw [shf_idx hf, shf_idx hf, tn_div]
 unfold tn
 omega
theorem shf_div (hf : Few gs) (h : Nat) : shf gs h / 4 = idx gs (h / 4) := by rw [shf_idx hf]; omega
theorem rs_out (hn : gs.Nodup) (hf : Few gs) (d : Dg) (mt : List Nat) (lp : Nat) {h : Nat} (hh : stay d gs h) : out (rsD d gs mt lp) (shf gs h) = out d h := by
 have e := rs_s hn d mt lp (c := h / 4) (by have := hh.1; omega) hh.2
 have e2 : shf gs h % 4 = h % 4 := by rw [shf_idx hf]; omega
 unfold out
 rw [shf_div hf, e, e2]
/-- What the mates are when crossings are taken out: an involution that keeps them apart. -/
structure Rs (d : Dg) (gs mt : List Nat) (lp : Nat) (b : Nat → Nat) : Prop where
 nd : gs.Nodup
 few : Few gs
 hm : Hm (4 * d.n) (dart d) rot b
 cl : ∀ h, gone d gs h → b h / 4 ∈ gs
 at_ : ∀ h, stay d gs h → mt.getD h 0 = b h
 way : ∀ h, stay d gs h → out d h ≠ out d (b h)
 lp : lp ≤ 64
variable {d : Dg} {mt : List Nat} {lp : Nat} {b : Nat → Nat}
theorem Rs.stay (R : Rs d gs mt lp b) {h : Nat} (hh : stay d gs h) : stay d gs (b h) := by
 have hl := R.hm.ab.maps h hh.1
 refine ⟨hl, fun e => hh.2 ?_⟩
 have := R.cl (b h) ⟨hl, e⟩
 rwa [R.hm.inv h hh.1] at this
theorem Rs.m (R : Rs d gs mt lp b) {h : Nat} (hh : Pl.stay d gs h) : (rsD d gs mt lp).m (shf gs h) = shf gs (b h) := by
 rw [rs_m R.nd R.few d mt lp hh.1 hh.2, R.at_ h hh]
theorem rot_stay {h : Nat} (hh : stay d gs h) : stay d gs (rot h) := ⟨tn_lt hh.1, by show tn h 3 / 4 ∉ gs; rw [tn_div]; exact hh.2⟩
theorem tn_stay {h k : Nat} (hh : stay d gs h) : stay d gs (tn h k) := ⟨tn_lt hh.1, by rw [tn_div]; exact hh.2⟩
theorem rot_gone {h : Nat} (hh : gone d gs h) : gone d gs (rot h) := ⟨tn_lt hh.1, by show tn h 3 / 4 ∈ gs; rw [tn_div]; exact hh.2⟩
theorem Rs.wf (hd : Wf d) (R : Rs d gs mt lp b) : Wf (rsD d gs mt lp) := by
 have hle := left_le d.n gs
 refine wf_by (by rw [rs_n]; have := hd.few; omega) (by rw [rs_n]; exact shrM_len gs d.n mt) R.lp (fun c hc => ?_) (fun z hz => ?_)
 ·rw [rs_n] at hc
  obtain ⟨c, h1, h2, rfl⟩ := idx_onto R.nd hc
  rw [rs_s R.nd d mt lp h1 h2]
  exact hd.sign c h1
 ·obtain ⟨h, hs, rfl⟩ := shf_onto R.nd R.few mt lp hz
  have hb := R.stay hs
  rw [R.m hs, R.m hb, R.hm.inv h hs.1, rs_out R.nd R.few d mt lp hs, rs_out R.nd R.few d mt lp hb]
  exact ⟨shf_lt R.nd R.few mt lp hb, rfl, R.way h hs⟩
theorem Rs.valid (hd : Wf d) (R : Rs d gs mt lp b) (hf : Flat (dart d) rot b) : Valid (rsD d gs mt lp) := by
 refine Valid.iff.2 ⟨R.wf hd, ?_⟩
 have h1 : Hm (4 * d.n) (Pl.stay d gs) rot b := ⟨⟨fun _ h => h.1, fun _ h => rot_stay h, fun x y hx hy e => R.hm.rb.inj x y hx.1 hy.1 e⟩, ⟨fun _ h => h.1, fun _ h => R.stay h, fun x y hx hy e => R.hm.ab.inj x y hx.1 hy.1 e⟩, fun x hx => R.hm.inv x hx.1⟩
 have h2 : Hm (4 * d.n) (gone d gs) rot b := ⟨⟨fun _ h => h.1, fun _ h => rot_gone h, fun x y hx hy e => R.hm.rb.inj x y hx.1 hy.1 e⟩, ⟨fun _ h => h.1, fun x h => ⟨R.hm.ab.maps x h.1, R.cl x h⟩, fun x y hx hy e => R.hm.ab.inj x y hx.1 hy.1 e⟩, fun x hx => R.hm.inv x hx.1⟩
 have fs : Flat (Pl.stay d gs) rot b := Flat.sub h1 h2 (fun x hx hy => hx.2 hy.2) (fun x => ⟨fun h => h.elim (·.1) (·.1), fun h => (Classical.em (x / 4 ∈ gs)).elim (fun e => .inr ⟨h, e⟩) (fun e => .inl ⟨h, e⟩)⟩) hf
 exact Gen.map (S := Pl.stay d gs) (t := shf gs) (fun x hx => rot_stay hx) (fun x hx => R.stay hx) (fun x hx => shf_tn R.few x 3) (fun x hx => R.m hx) (fun x y hx hy e => shf_inj R.nd R.few hx.2 hy.2 e) (fun x hx => shf_lt R.nd R.few mt lp hx) (fun y hy => shf_onto R.nd R.few mt lp hy) fs
end Go.Proofs.YtcaoblilkgajoaaDoor.Pl
end
section
namespace Go.Proofs.YtcaoblilkgajoaaDoor.Pl
variable {d : Dg}
theorem rot_rot (h : Nat) : rot (rot h) = tn h 2 := by unfold rot; rw [tn_tn]; unfold tn; omega
theorem st_bij (hd : Wf d) : Bij (4 * d.n) (dart d) (st d) :=
 ⟨fun _ h => h, fun x hx => tn_lt (hd.lt x hx), fun x y hx hy e => hd.bij.inj x y hx hy (tn_inj e)⟩
theorem out_st (hd : Wf d) {h : Nat} (hh : h < 4 * d.n) : out d (st d h) = out d h := by
 unfold st
 rw [out_opp hd (hd.lt h hh), out_way hd hh, Bool.not_not]
theorem out_it (hd : Wf d) {h : Nat} (hh : h < 4 * d.n) : ∀ k, out d (it (st d) k h) = out d h
 | 0 => rfl
 | k + 1 => by
   show out d (st d (it (st d) k h)) = _
   rw [out_st hd ((st_bij hd).it k h hh), out_it hd hh k]
theorem least_back {N : Nat} {S : Nat → Prop} {f : Nat → Nat} (h : Bij N S f) {x : Nat} (hx : S x) : ∃ p, 0 < p ∧ it f p x = x ∧ ∀ j, 0 < j → j < p → it f j x ≠ x := by
 obtain ⟨p, p0, _, e⟩ := h.back hx
 obtain ⟨q, ⟨q0, hq⟩, hmin⟩ := least_of (p := fun k => 0 < k ∧ it f k x = x) p ⟨p0, e⟩
 exact ⟨q, q0, hq, fun j j0 jq e2 => by have := hmin j ⟨j0, e2⟩; omega⟩
/-- No edge joins two opposite half-edges. -/
theorem no_opp (hd : Valid d) {o : Nat} (ho : o < 4 * d.n) : d.m o ≠ tn o 2 := by
 intro he
 have hv := Valid.iff.1 hd
 have hw := hv.1
 have hm := hw.hm
 have ho2 : tn o 2 < 4 * d.n := tn_lt ho
 have hne : o ≠ tn o 2 := fun e => hw.ne o ho (by rw [he]; exact e.symm)
 -- the half-edge q of the other strand that comes in, p that goes out
 obtain ⟨p, q, hpq, hqp, hcase, hop, hoq⟩ : ∃ p q, q = tn p 2 ∧ p = tn q 2 ∧ (q = tn o 1 ∨ q = tn o 3) ∧ out d p = true ∧ out d q = false := by
  have h1 : out d (tn (tn o 1) 2) = !out d (tn o 1) := out_opp hw (tn_lt ho)
  rw [tn_tn] at h1
  cases e : out d (tn o 1) with
  | true => exact ⟨tn o 1, tn o 3, by rw [tn_tn], by rw [tn_tn]; unfold tn; omega, .inr rfl, e, by rw [h1, e]; rfl⟩
  | false => exact ⟨tn o 3, tn o 1, by rw [tn_tn]; unfold tn; omega, by rw [tn_tn], .inl rfl, by rw [h1, e]; rfl, e⟩
 have hq : q < 4 * d.n := by rcases hcase with rfl | rfl <;> exact tn_lt ho
 have hp : p < 4 * d.n := by rw [hqp]; exact tn_lt hq
 have qo : q ≠ o := by rcases hcase with rfl | rfl <;> (unfold tn; omega)
 have qo2 : q ≠ tn o 2 := by rcases hcase with rfl | rfl <;> (unfold tn; omega)
 have po : p ≠ o := by rw [hqp]; rcases hcase with rfl | rfl <;> (unfold tn; omega)
 have po2 : p ≠ tn o 2 := by rw [hqp]; rcases hcase with rfl | rfl <;> (unfold tn; omega)
 obtain ⟨y, hy⟩ : ∃ y, y = d.m q := ⟨_, rfl⟩
 have hyl : y < 4 * d.n := by rw [hy]; exact hw.lt q hq
 have hyq : d.m y = q := by rw [hy, hw.inv q hq]
 have yo : y ≠ o := fun e => by rw [e, he] at hyq; exact qo2 hyq.symm
 have hmo2 : d.m (tn o 2) = o := by rw [← he, hw.inv o ho]
 have yo2 : y ≠ tn o 2 := fun e => by rw [e, hmo2] at hyq; exact qo hyq.symm
 have qy : q ≠ y := fun e => hw.ne q hq (by rw [← hy]; exact e.symm)
 -- without the edge o
 obtain ⟨c1, c2, c3⟩ := Hm.cut hm ho (hw.ne o ho)
 rw [he] at c1 c2 c3
 obtain ⟨a0, ha0⟩ : ∃ a0, a0 = tr d.m o (tn o 2) := ⟨_, rfl⟩
 rw [← ha0] at c1 c2 c3
 have a0e : tr a0 o (tn o 2) = d.m := by rw [ha0, tr_tr]
 obtain ⟨f0, k0⟩ := Flat.del c1 ho ho2 hne c2 c3 (by rw [a0e]; exact hv.2)
 have a0q : a0 q = y := by rw [ha0, tr_ne qo qo2, hy]
 have a0y : a0 y = q := by rw [ha0, tr_ne yo yo2, hyq]
 -- and without the edge q
 obtain ⟨d1, d2, d3⟩ := Hm.cut c1 hq (by rw [a0q]; exact Ne.symm qy)
 rw [a0q] at d1 d2 d3
 obtain ⟨a1, ha1⟩ : ∃ a1, a1 = tr a0 q y := ⟨_, rfl⟩
 rw [← ha1] at d1 d2 d3
 have a1e : tr a1 q y = a0 := by rw [ha1, tr_tr]
 obtain ⟨f1, k1⟩ := Flat.del d1 hq hyl qy d2 d3 (by rw [a1e]; exact f0)
 have a1z : ∀ z, z ≠ o → z ≠ tn o 2 → z ≠ q → z ≠ y → a1 z = d.m z := fun z z1 z2 z3 z4 => by rw [ha1, tr_ne z3 z4, ha0, tr_ne z1 z2]
 have rr : ∀ z, Con rot a1 z (tn z 2) := fun z => by rw [← rot_rot]; exact (Con.refl.left).left
 -- the strand of p comes back along q's edge
 have hsb := st_bij hw
 have fo : st d o = o := by unfold st; rw [he, tn_tn]; exact tn_four o
 have fo2 : st d (tn o 2) = tn o 2 := by unfold st; rw [hmo2]
 obtain ⟨k, kp, ke, kl⟩ := least_back hsb (x := p) hp
 have run : ∀ j, j < k → Con rot a1 p (it (st d) j p) := by
  intro j
  induction j with
  | zero => intro _; exact .refl
  | succ j ih =>
    intro hj
    have h1 := ih (by omega)
    have hz := hsb.it j p hp
    obtain ⟨z, ez⟩ : ∃ z, z = it (st d) j p := ⟨_, rfl⟩
    show Con rot a1 p (st d (it (st d) j p))
    rw [← ez] at h1 hz ⊢
    have hfix : ∀ w, dart d w → st d w = w → z ≠ w → True := fun _ _ _ _ => trivial
    have zo : z ≠ o := fun e => by
     have e2 : it (st d) j p = it (st d) j o := by
      rw [← ez, e]
      have : ∀ i, it (st d) i o = o := fun i => by
       induction i with
       | zero => rfl
       | succ i ih => show st d (it (st d) i o) = o; rw [ih, fo]
      exact (this j).symm
     exact po (hsb.it_inj j p o hp ho e2)
    have zo2 : z ≠ tn o 2 := fun e => by
     have e2 : it (st d) j p = it (st d) j (tn o 2) := by
      rw [← ez, e]
      have : ∀ i, it (st d) i (tn o 2) = tn o 2 := fun i => by
       induction i with
       | zero => rfl
       | succ i ih => show st d (it (st d) i (tn o 2)) = tn o 2; rw [ih, fo2]
      exact (this j).symm
     exact po2 (hsb.it_inj j p _ hp ho2 e2)
    have zq : z ≠ q := fun e => by
     have := out_it hw hp j
     rw [← ez, e, hop, hoq] at this
     exact absurd this (by decide)
    have zy : z ≠ y := fun e => by
     apply kl (j + 1) (by omega) hj
     show st d (it (st d) j p) = p
     rw [← ez, e]
     unfold st
     rw [hyq, ← hqp]
    have e3 : a1 z = d.m z := a1z z zo zo2 zq zy
    have h2 : Con rot a1 p (d.m z) := by rw [← e3]; exact h1.right
    exact h2.trans (rr (d.m z))
 have hlast : it (st d) (k - 1) p = y := by
  have e : st d (it (st d) (k - 1) p) = p := by
   have : it (st d) (k - 1 + 1) p = p := by rw [show k - 1 + 1 = k by omega]; exact ke
   exact this
  have hz := hsb.it (k - 1) p hp
  have e2 : st d y = p := by unfold st; rw [hyq, ← hqp]
  exact hsb.inj _ _ hz hyl (e.trans e2.symm)
 have cpy : Con rot a1 p y := by have := run (k - 1) (by omega); rwa [hlast] at this
 have cqy : Con rot a1 q y := by
  have := rr q
  rw [← hqp] at this
  exact this.trans cpy
 have hn : ¬ Orb (phi rot a0) q y := by
  rw [← a1e, phi_tr]
  exact d1.pb.part hq hyl qy (k1 cqy)
 have coo : Con rot a0 o (tn o 2) := by rw [← rot_rot]; exact (Con.refl.left).left
 have ooo := k0 coo
 have py : phi rot a0 y = rot q := by unfold phi; rw [a0y]
 have po' : phi rot a0 o = rot o := by unfold phi; rw [c2]
 have po2' : phi rot a0 (tn o 2) = rot (tn o 2) := by unfold phi; rw [c3]
 have sym := fun {x y} (hx : dart d x) (e : Orb (phi rot a0) x y) => c1.pb.symm hx e
 rcases hcase with e | e
 ·-- q = tn o 1: o2 goes to q, y goes to o
  have s1 : Orb (phi rot a0) (tn o 2) q := by
   have := Orb.step (phi rot a0) (tn o 2)
   rw [po2', show rot (tn o 2) = q by rw [e]; unfold rot; rw [tn_tn]; unfold tn; omega] at this
   exact this
  have s2 : Orb (phi rot a0) y o := by
   have := Orb.step (phi rot a0) y
   rw [py, show rot q = o by rw [e]; unfold rot; rw [tn_tn]; exact tn_four o] at this
   exact this
  exact hn (sym hyl (s2.trans (ooo.trans s1)))
 ·have s1 : Orb (phi rot a0) o q := by
   have := Orb.step (phi rot a0) o
   rw [po', show rot o = q by rw [e]; rfl] at this
   exact this
  have s2 : Orb (phi rot a0) y (tn o 2) := by
   have := Orb.step (phi rot a0) y
   rw [py, show rot q = tn o 2 by rw [e]; unfold rot; rw [tn_tn]; unfold tn; omega] at this
   exact this
  exact hn (sym hyl (s2.trans ((sym ho ooo).trans s1)))
end Go.Proofs.YtcaoblilkgajoaaDoor.Pl
end
section
namespace Go.Proofs.YtcaoblilkgajoaaDoor.Pl
variable {d : Dg}
theorem tn_ne {h j k : Nat} (e : j % 4 ≠ k % 4) : tn h j ≠ tn h k := by unfold tn; omega
theorem dg_m {d : Dg} (hd : Wf d) {h : Nat} (hh : h < 4 * d.n) : d.mt.getD h 0 = d.m h := by
 unfold Dg.m
 have := hd.len
 rw [List.getD_eq_getElem?_getD, List.getD_eq_getElem?_getD, List.getElem?_eq_getElem (by omega)]
 rfl
/-- The four half-edges of a kink: o and its mate i lie side by side; A and B are across. -/
theorem kink_four (hd : Valid d) {o : Nat} (ho : o < 4 * d.n) (hk : d.m o / 4 = o / 4) : d.m o = tn o 1 ∨ d.m o = tn o 3 := by
 have h1 := no_opp hd ho
 have h2 := (Valid.iff.1 hd).1.ne o ho
 unfold tn at h1 ⊢
 omega
/-- The mates without the kink at o, on an edge: A and B, across o and across its mate, are bypassed. -/
theorem kink_byp (hd : Valid d) {o : Nat} (ho : o < 4 * d.n) (hk : d.m o / 4 = o / 4) (hn : d.m (tn o 2) ≠ tn (d.m o) 2) :
 Hm (4 * d.n) (dart d) rot (byp d.m (tn (d.m o) 2) (tn o 2)) ∧ Flat (dart d) rot (byp d.m (tn (d.m o) 2) (tn o 2)) := by
 have hv := Valid.iff.1 hd
 have hw := hv.1
 have hi := hw.lt o ho
 have hA : tn o 2 < 4 * d.n := tn_lt ho
 have hB : tn (d.m o) 2 < 4 * d.n := tn_lt hi
 have hBA : tn (d.m o) 2 ≠ tn o 2 := fun e => hw.ne o ho (tn_inj e)
 have hmBA : d.m (tn (d.m o) 2) ≠ tn o 2 := fun e => hn (by rw [← e, hw.inv _ hB])
 obtain ⟨c0, c1, c2, c3, c4, c5, c6, c7⟩ := cut2_hm hw.hm hB hA hBA (hw.ne _ hB) (hw.ne _ hA) hmBA
 refine byp_flat hw.hm hB hA hBA (hw.ne _ hB) (hw.ne _ hA) hmBA ?_ hv.2
 rcases kink_four hd ho hk with e | e
 ·-- B's next is A
  have s1 := Orb.step (phi rot (cut2 d.m (tn (d.m o) 2) (tn o 2))) (tn (d.m o) 2)
  rw [show phi rot (cut2 d.m (tn (d.m o) 2) (tn o 2)) (tn (d.m o) 2) = tn o 2 by
   unfold phi; rw [c1, e]; unfold rot; rw [tn_tn, tn_tn]; unfold tn; omega] at s1
  exact s1
 ·have s1 := Orb.step (phi rot (cut2 d.m (tn (d.m o) 2) (tn o 2))) (tn (d.m o) 2)
  rw [show phi rot (cut2 d.m (tn (d.m o) 2) (tn o 2)) (tn (d.m o) 2) = o by
   unfold phi; rw [c1, e]; unfold rot; rw [tn_tn, tn_tn]; unfold tn; omega] at s1
  have n1 : o ≠ tn (d.m o) 2 := by rw [e, tn_tn]; unfold tn; omega
  have n2 : o ≠ tn o 2 := by unfold tn; omega
  have n3 : o ≠ d.m (tn (d.m o) 2) := fun e2 => by
   have : d.m o = tn (d.m o) 2 := by have h := hw.inv _ hB; rw [← e2] at h; exact h
   unfold tn at this; omega
  have n4 : o ≠ d.m (tn o 2) := fun e2 => by
   have : d.m o = tn o 2 := by have h := hw.inv _ hA; rw [← e2] at h; exact h
   exact no_opp hd ho this
  have s2 := Orb.step (phi rot (cut2 d.m (tn (d.m o) 2) (tn o 2))) o
  rw [show phi rot (cut2 d.m (tn (d.m o) 2) (tn o 2)) o = tn o 2 by
   unfold phi; rw [cut2_at _ _ n1 n2 n3 n4, e]; unfold rot; rw [tn_tn]; unfold tn; omega] at s2
  exact s1.trans s2
/-- Without the kink: on an edge. -/
theorem kink_rs (hd : Valid d) {o : Nat} (ho : o < 4 * d.n) (hk : d.m o / 4 = o / 4) (hn : d.m (tn o 2) ≠ tn (d.m o) 2) {mt : List Nat} {lp : Nat} (hl : lp ≤ 64)
 (hmt : ∀ h, h < 4 * d.n → mt.getD h 0 = if h = d.m (tn o 2) then d.m (tn (d.m o) 2) else if h = d.m (tn (d.m o) 2) then d.m (tn o 2) else d.m h) :
 Rs d [o / 4] mt lp (byp d.m (tn (d.m o) 2) (tn o 2)) := by
 have hw := (Valid.iff.1 hd).1
 have hi := hw.lt o ho
 have hA : tn o 2 < 4 * d.n := tn_lt ho
 have hB : tn (d.m o) 2 < 4 * d.n := tn_lt hi
 have hBA : tn (d.m o) 2 ≠ tn o 2 := fun e => hw.ne o ho (tn_inj e)
 have hmBA : d.m (tn (d.m o) 2) ≠ tn o 2 := fun e => hn (by rw [← e, hw.inv _ hB])
 obtain ⟨b1, b2, b3, b4, b5⟩ := byp_at hw.hm hB hA hBA (hw.ne _ hB) (hw.ne _ hA) hmBA
 have q1 : tn o 2 / 4 = o / 4 := tn_div o 2
 have q2 : tn (d.m o) 2 / 4 = o / 4 := by rw [tn_div, hk]
 have four := kink_four hd ho hk
 have inv := hw.inv o ho
 -- the mates of A and B lie elsewhere
 have uA : d.m (tn o 2) / 4 ≠ o / 4 := fun e => by
  have h1 : d.m (tn o 2) = o ∨ d.m (tn o 2) = d.m o ∨ d.m (tn o 2) = tn o 2 ∨ d.m (tn o 2) = tn (d.m o) 2 := by rcases four with h | h <;> rw [h] <;> unfold tn at * <;> omega
  rcases h1 with h | h | h | h
  ·have : tn o 2 = d.m o := by have h2 := hw.inv _ hA; rw [h] at h2; exact h2.symm
   exact no_opp hd ho this.symm
  ·have := hw.bij.inj _ _ hA ho h; unfold tn at this; omega
  ·exact hw.ne _ hA h
  ·exact hn h
 have uB : d.m (tn (d.m o) 2) / 4 ≠ o / 4 := fun e => by
  have h1 : d.m (tn (d.m o) 2) = o ∨ d.m (tn (d.m o) 2) = d.m o ∨ d.m (tn (d.m o) 2) = tn o 2 ∨ d.m (tn (d.m o) 2) = tn (d.m o) 2 := by rcases four with h | h <;> rw [h] at e ⊢ <;> unfold tn at * <;> omega
  rcases h1 with h | h | h | h
  ·have : tn (d.m o) 2 = d.m o := by have h2 := hw.inv _ hB; rw [h] at h2; exact h2.symm
   unfold tn at this; omega
  ·have := hw.bij.inj _ _ hB ho h
   exact no_opp hd hi (by rw [inv]; exact this.symm)
  ·exact hmBA h
  ·exact hw.ne _ hB h
 refine ⟨by simp, few_one _, (kink_byp hd ho hk hn).1, fun h hg => ?_, fun h hs => ?_, fun h hs => ?_, hl⟩
 ·have hc : h / 4 = o / 4 := by simpa using hg.2
  have h1 : h = o ∨ h = d.m o ∨ h = tn o 2 ∨ h = tn (d.m o) 2 := by rcases four with h | h <;> rw [h] <;> unfold tn at * <;> omega
  have t1 : o ≠ tn (d.m o) 2 := by rcases four with h | h <;> rw [h, tn_tn] <;> (unfold tn; omega)
  have t2 : o ≠ tn o 2 := by unfold tn; omega
  have t3 : d.m o ≠ tn (d.m o) 2 := by unfold tn; omega
  have t4 : d.m o ≠ tn o 2 := no_opp hd ho
  rcases h1 with rfl | rfl | rfl | rfl
  ·rw [b5 h t1 t2 (fun e => uB (by rw [← e])) (fun e => uA (by rw [← e]))]; simpa using hk
  ·rw [b5 _ t3 t4 (fun e => uB (by rw [← e, hk])) (fun e => uA (by rw [← e, hk])), inv]; simp
  ·rw [b2]; simpa using q1
  ·rw [b1]; simpa using q2
 ·have hc : h / 4 ≠ o / 4 := by simpa using hs.2
  rw [hmt h hs.1]
  by_cases e1 : h = d.m (tn o 2)
  ·rw [if_pos e1, e1, b4]
  ·rw [if_neg e1]
   by_cases e2 : h = d.m (tn (d.m o) 2)
   ·rw [if_pos e2, e2, b3]
   ·rw [if_neg e2, b5 h (fun e => hc (by rw [e, q2])) (fun e => hc (by rw [e, q1])) e2 e1]
 ·have hc : h / 4 ≠ o / 4 := by simpa using hs.2
  have oA : out d (d.m (tn o 2)) = out d o := by rw [out_way hw hA, out_opp hw ho, Bool.not_not]
  have oB : out d (d.m (tn (d.m o) 2)) = !out d o := by rw [out_way hw hB, out_opp hw hi, out_way hw ho, Bool.not_not]
  by_cases e1 : h = d.m (tn o 2)
  ·rw [e1, b4, oA, oB]; cases out d o <;> decide
  ·by_cases e2 : h = d.m (tn (d.m o) 2)
   ·rw [e2, b3, oA, oB]; cases out d o <;> decide
   ·rw [b5 h (fun e => hc (by rw [e, q2])) (fun e => hc (by rw [e, q1])) e2 e1]
    exact hw.way h hs.1
end Go.Proofs.YtcaoblilkgajoaaDoor.Pl
end
