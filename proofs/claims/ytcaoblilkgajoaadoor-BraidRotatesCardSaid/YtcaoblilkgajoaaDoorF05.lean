/-
 The texts Ve, Vg, Vh, Vi, Ins, Vj, Vk, Vl, Vm, Vn in one.
-/
import Derived.Test.YtcaoblilkgajoaaDoorF04
import Derived.Test.YtcaoblilkgajoaaDoorF03
import Derived.Deep.RegionWith
import Derived.Deep.DeepCutAuto
import Derived.Deep.CutBlock
import Derived.Deep.RegionHeld3
import Derived.Deep.DrawnRows
import Derived.Test.YtcaoblilkgajoaaDoorF02
import Derived.Test.YtcaoblilkgajoaaDoorF00
import Derived.Deep.CutRange
set_option linter.unusedVariables false
set_option linter.unusedSimpArgs false
section
namespace Go.Proofs.YtcaoblilkgajoaaDoor
open Go Go.RowKit
attribute [local go_sem ↓] Go.wp_at_zero Go.wp_at_succ
theorem own_setNe {W : World} {base b n s : Nat} {e : TypeId} {v : Value} {xs : List Value} (h : W.ownsRow base e s v n xs) (hne : v.ownBlock ≠ some b) (o : Nat) (u : Value) : (W.setCell ⟨b, o, none⟩ u).ownsRow base e s v n xs := by
 refine ⟨h.1, ?_⟩
 rcases h.2 with hz | ⟨g, cap, cur, r1, r2, r3, r4⟩
 ·exact .inl hz
 ·refine .inr ⟨g, cap, cur, r1, r2, ?_, r4⟩
  have hgb : g ≠ b := fun e => hne (by rw [r1, e]; rfl)
  exact (Below.heap_setCell W ⟨b, o, none⟩ u g hgb).trans r3
def PcsV (W : World) : List Value → List Pl.Pc → Prop
 | [], [] => True
 | vC :: vO :: .int .i64 x :: r, p :: ps => PcV W vC vO x p ∧ PcsV W r ps
 | _, _ => False
theorem PcsV.map {W W' : World} (f : ∀ {vC vO : Value} {x : Int} {p : Pl.Pc}, PcV W vC vO x p → PcV W' vC vO x p) : ∀ {cs : List Value} {ps : List Pl.Pc}, PcsV W cs ps → PcsV W' cs ps
 | [], [], _ => trivial
 | vC :: vO :: .int .i64 x :: r, p :: ps, h => ⟨f h.1, PcsV.map f h.2⟩
theorem PcsV.add {W : World} {vC vO : Value} {x : Int} {p : Pl.Pc} (hp : PcV W vC vO x p) : ∀ {cs : List Value} {ps : List Pl.Pc}, PcsV W cs ps → PcsV W (cs ++ [vC, vO, .int .i64 x]) (ps ++ [p])
 | [], [], _ => ⟨hp, trivial⟩
 | vC' :: vO' :: .int .i64 x' :: r, p' :: ps, h => ⟨h.1, PcsV.add hp h.2⟩
structure GRf (d : Pl.Dg) (ls : List Int) (P : Nat) (A : Option Addr) (vs : List Value) (W : World) : Prop where
 r : RowT W 22 A P vs
 v : Vs W vs ((List.range P).map (Gl ls d.n))
structure PL (w : World) (d : Pl.Dg) (ls : List Int) (P : Nat) (A : Option Addr) (vs dv : List Value) (j : Nat) (vL : Value) (cs : List Value) (ps : List Pl.Pc) (W : World) : Prop where
 bx : Row W w.heap.size 28 dv
 gr : GRf d ls P A vs W
 own : W.ownsRow (w.heap.size + 1) 90 3 vL j cs
 pv : PcsV W cs ps
 len : ps.length = j
 is : ∀ (i : Nat) (p : Pl.Pc), ps[i]? = some p → Pl.Lst5 d (Gl ls d.n i) p
 bel : Below w.heap.size w W
section
variable {w W W' : World} {d : Pl.Dg} {ls : List Int} {P : Nat} {A : Option Addr} {vs dv : List Value} {j : Nat} {vL : Value} {cs : List Value} {ps : List Pl.Pc}
theorem PL.big (h : PL w d ls P A vs dv j vL cs ps W) : w.heap.size + 1 ≤ W.heap.size := by have := h.bx.lt; omega
theorem PL.below (h : PL w d ls P A vs dv j vL cs ps W) (hb : Below W.heap.size W W') : PL w d ls P A vs dv j vL cs ps W' :=
 ⟨h.bx.below hb, ⟨h.gr.r.keep hb, h.gr.v.below hb⟩, own_below h.own hb, h.pv.map (fun p => p.below hb), h.len, h.is, h.bel.trans (hb.mono h.bel.size)⟩
theorem PL.alloc (h : PL w d ls P A vs dv j vL cs ps W) (o : Obj) : PL w d ls P A vs dv j vL cs ps (W.alloc o) := h.below ((Below.refl _ _).alloc (Nat.le_refl _) o)
theorem PL.setB (h : PL w d ls P A vs dv j vL cs ps W) {g : Nat} {us : List Value} (hr : Row W g 90 us) (hg : w.heap.size < g) (hne : vL.ownBlock ≠ some g) (o : Nat) (u : Value) : PL w d ls P A vs dv j vL cs ps (W.setCell ⟨g, o, none⟩ u) :=
 ⟨h.bx.other (by show _ ≠ g; omega) _, ⟨h.gr.r.store hr (by decide) u, h.gr.v.store hr (by decide) u⟩, own_setNe h.own hne o u, h.pv.map (fun p => p.store hr (by decide) u), h.len, h.is, h.bel.setCell (by show _ ≤ g; omega) _⟩
theorem PL.app (h : PL w d ls P A vs dv j vL cs ps W) {g c n : Nat} {vC vO : Value} {x : Int} {p : Pl.Pc} (own : W'.ownsRow (w.heap.size + 1) 90 3 (.slice (some ⟨g, 0, none⟩) n c) n (cs ++ [vC, vO, .int .i64 x])) (gr : W.grownBy W' vL.ownBlock) (hn : n = j + 1) (hp : PcV W vC vO x p) (hi : Pl.Lst5 d (Gl ls d.n j) p) :
 PL w d ls P A vs dv n (.slice (some ⟨g, 0, none⟩) n c) (cs ++ [vC, vO, .int .i64 x]) (ps ++ [p]) W' := by
 have hbk := fun g (hg : vL.ownBlock = some g) => ownsRow_block h.own g hg
 refine ⟨h.bx.grown gr (fun e => ?_), ⟨h.gr.r.grown gr hbk (by decide), h.gr.v.grown gr hbk (by decide)⟩, own, PcsV.add (hp.grown gr hbk (by decide)) (h.pv.map (fun q => q.grown gr hbk (by decide))), by rw [List.length_append, h.len, hn]; rfl, fun i q hq => ?_, h.bel.grown gr h.bel.size (fun k hk => by have := (h.own.lt k hk).1; omega)⟩
 ·have := (h.own.lt _ e.symm).1
  omega
 ·rw [List.getElem?_append] at hq
  split at hq
  ·exact h.is i q hq
  ·have h1 := (List.getElem?_eq_some_iff.1 hq).1
   have h2 : i = j := by have := h.len; simp at h1; omega
   subst h2
   rw [h.len, Nat.sub_self] at hq
   injection hq with hq
   subst hq
   exact hi
end
end Go.Proofs.YtcaoblilkgajoaaDoor
end
section
namespace Go.Proofs.YtcaoblilkgajoaaDoor
open Go Go.RowKit
attribute [local go_sem ↓] Go.wp_at_zero Go.wp_at_succ
theorem PL.setB3 {w W : World} {d : Pl.Dg} {ls : List Int} {P : Nat} {A : Option Addr} {vs dv : List Value} {j : Nat} {vL : Value} {cs : List Value} {ps : List Pl.Pc} (h : PL w d ls P A vs dv j vL cs ps W) {g : Nat} {us : List Value} (hr : Row W g 90 us) (hg : w.heap.size < g) (hne : vL.ownBlock ≠ some g) (y0 y1 y2 : Value) :
 PL w d ls P A vs dv j vL cs ps (((W.setCell ⟨g, 0, none⟩ y0).setCell ⟨g, 1, none⟩ y1).setCell ⟨g, 2, none⟩ y2) :=
 ((h.setB hr hg hne 0 y0).setB (hr.set 0 y0) hg hne 1 y1).setB ((hr.set 0 y0).set 1 y1) hg hne 2 y2
theorem IntT.store3 {W : World} {v : Value} {xs : List Int} (h : IntT W v xs) {g : Nat} {us : List Value} (hr : Row W g 90 us) (y0 y1 y2 : Value) :
 IntT (((W.setCell ⟨g, 0, none⟩ y0).setCell ⟨g, 1, none⟩ y1).setCell ⟨g, 2, none⟩ y2) v xs :=
 ((h.store hr (by decide) y0).store (hr.set 0 y0) (by decide) y1).store ((hr.set 0 y0).set 1 y1) (by decide) y2
theorem own_natT {W : World} {base : Nat} {v : Value} {l : List Nat} (h : W.ownsRow base 3 1 v l.length (l.map (fun k : Nat => Value.int .i64 k))) : IntT W v (nats l) := by
 refine own_intT (base := base) ?_
 rw [map_nats]
 have e : (nats l).length = l.length := by unfold nats; simp
 rw [e]
 exact h
structure PI (w : World) (d : Pl.Dg) (ls : List Int) (P : Nat) (A : Option Addr) (vs dv : List Value) (j : Nat) (vL : Value) (cs : List Value) (ps : List Pl.Pc) (g6 k : Nat) (vC vO : Value) (x : Int) (W : World) : Prop where
 p : PL w d ls P A vs dv j vL cs ps W
 r : Row W g6 90 [vC, vO, .int .i64 x]
 b : PBox d (Gl ls d.n j) k W vC vO x
 lo : w.heap.size < g6
 ne : vL.ownBlock ≠ some g6
section
variable {w W W' : World} {d : Pl.Dg} {ls : List Int} {P : Nat} {A : Option Addr} {vs dv : List Value} {j g6 k : Nat} {vL vC vO : Value} {x : Int} {cs : List Value} {ps : List Pl.Pc}
theorem PI.below (h : PI w d ls P A vs dv j vL cs ps g6 k vC vO x W) (hb : Below W.heap.size W W') : PI w d ls P A vs dv j vL cs ps g6 k vC vO x W' :=
 ⟨h.p.below hb, h.r.below hb, h.b.below hb, h.lo, h.ne⟩
theorem PI.put (h : PI w d ls P A vs dv j vL cs ps g6 k vC vO x W) {p : Pl.Pc} {vC' vO' : Value} (hp : PcV W vC' vO' 1 p) (hl : Pl.Lst5 d ((Gl ls d.n j).take (k + 1)) p) :
 PI w d ls P A vs dv j vL cs ps g6 (k + 1) vC' vO' 1 (((W.setCell ⟨g6, 0, none⟩ vC').setCell ⟨g6, 1, none⟩ vO').setCell ⟨g6, 2, none⟩ (.int .i64 1)) :=
 ⟨h.p.setB3 h.r h.lo h.ne _ _ _, row3 h.r rfl _ _ _, .inr ⟨p, ⟨hp.c.store3 h.r _ _ _, hp.o.store3 h.r _ _ _, hp.r⟩, hl, by omega, by omega⟩, h.lo, h.ne⟩
theorem PI.more (h : PI w d ls P A vs dv j vL cs ps g6 k vC vO x W) {p : Pl.Pc} (hp : PcV W vC vO x p) (hl : Pl.Lst5 d ((Gl ls d.n j).take (k + 1)) ⟨p.code, p.order, x + 1⟩) (h0 : 0 ≤ x) (h1 : x ≤ k) :
 PI w d ls P A vs dv j vL cs ps g6 (k + 1) vC vO (x + 1) (W.setCell ⟨g6, 2, none⟩ (.int .i64 (x + 1))) :=
 ⟨h.p.setB h.r h.lo h.ne _ _, h.r.set 2 (.int .i64 (x + 1)), .inr ⟨⟨p.code, p.order, x + 1⟩, ⟨hp.c.store h.r (by decide) _, hp.o.store h.r (by decide) _, rfl⟩, hl, by omega, by omega⟩, h.lo, h.ne⟩
theorem PI.skip (h : PI w d ls P A vs dv j vL cs ps g6 k vC vO x W) {p : Pl.Pc} (hp : PcV W vC vO x p) (hl : Pl.Lst5 d ((Gl ls d.n j).take (k + 1)) ⟨p.code, p.order, x⟩) (h0 : 0 ≤ x) (h1 : x ≤ k) :
 PI w d ls P A vs dv j vL cs ps g6 (k + 1) vC vO x W :=
 ⟨h.p, h.r, .inr ⟨⟨p.code, p.order, x⟩, ⟨hp.c, hp.o, rfl⟩, hl, by omega, by omega⟩, h.lo, h.ne⟩
end
theorem gl_comp {d : Pl.Dg} {ls : List Int} {P : Nat} (h : Pl.LB d ls P) (hp : ∀ a, a < d.n → 0 ≤ Pl.pv ls a) {j a b : Nat} (ha : a ∈ Gl ls d.n j) (hb : b ∈ Gl ls d.n j) : a < d.n ∧ Pl.Comp d a b := by
 rw [mem_Gl] at ha hb
 exact ⟨ha.1, h.conn a b ha.1 hb.1 (hp a ha.1) (by rw [ha.2, hb.2])⟩
theorem gl_at {P j : Nat} (ls : List Int) (n : Nat) (hj : j < P) : ((List.range P).map (Gl ls n))[j]? = some (Gl ls n j) := by
 rw [List.getElem?_map, List.getElem?_range hj]; rfl
end Go.Proofs.YtcaoblilkgajoaaDoor
end
section
namespace Go.Proofs.YtcaoblilkgajoaaDoor
open Go Go.RowKit
attribute [local go_sem ↓] Go.wp_at_zero Go.wp_at_succ
theorem pieceInfo : (Tryd.prog.info? 90).map (fun i => (i.zero, i.size, i.bytes)) = some (some (.agg #[.slice none 0 0, .slice none 0 0, .int .i64 0]), 3, 56) := by kernel_rfl
theorem three_news (W : World) (g : Nat) (h : g = W.heap.size) (a b c : Value) : ∀ (j : Nat) (u : Value), [a, b, c][j]? = some u → (W.alloc (.cells #[a, b, c] 90)).cell? ((⟨g, 0, none⟩ : Addr).add j) = some u := by
 subst h
 exact World.news_of_block (cs := #[a, b, c]) (t := 90) (fr := (0, 0)) (heap_alloc_new W _)
end Go.Proofs.YtcaoblilkgajoaaDoor
end
section
namespace Go.Proofs.YtcaoblilkgajoaaDoor
open Go Go.RowKit
attribute [local go_sem ↓] Go.wp_at_zero Go.wp_at_succ
def cmpP (p q : Pl.Pc) : Int := if p.order.length = q.order.length then Pl.lx p.code q.code else (p.order.length : Int) - (q.order.length : Int)
set_option maxRecDepth 100000 in
set_option maxHeartbeats 2000000 in
theorem cmp_pieces (vC vO vC' vO' : Value) (x x' : Int) (p q : Pl.Pc) (w : World) (hp : PcV w vC vO x p) (hq : PcV w vC' vO' x' q) (lp : p.order.length ≤ 64) (lq : q.order.length ≤ 64) (cp : p.code.length ≤ 320) (cq : q.code.length ≤ 320) :
 Calls Tryd.prog 81 #[.agg #[vC, vO, .int .i64 x], .agg #[vC', vO', .int .i64 x']] w fun e w' => e = .returned (.int .i64 (cmpP p q)) ∧ Below w.heap.size w w' := by
 obtain ⟨A1, e1, h1, h1c, h1b⟩ := hp.c
 obtain ⟨A2, e2, h2, _, h2b⟩ := hp.o
 obtain ⟨A3, e3, h3, h3c, h3b⟩ := hq.c
 obtain ⟨A4, e4, h4, _, h4b⟩ := hq.o
 subst h1; subst h2; subst h3; subst h4
 rw [nats_len, nats_len]
 have H1 := hide (show IntsAt w A1 p.code.length p.code from h1b.row)
 have H3 := hide (show IntsAt w A3 q.code.length q.code from h3b.row)
 clear h1b h2b h3b h4b hp hq h1c h3c
 obtain ⟨m, hm⟩ : ∃ m, m = p.order.length := ⟨_, rfl⟩
 obtain ⟨n, hn⟩ : ∃ n, n = q.order.length := ⟨_, rfl⟩
 have HMN := hide (show cmpP p q = if m = n then Pl.lx p.code q.code else (m : Int) - (n : Int) by unfold cmpP; rw [hm, hn])
 rw [← hm, ← hn]
 rw [← hm] at lp
 rw [← hn] at lq
 clear hm hn
 have B0 := hide (show Below w.heap.size w ((w.alloc (.cells #[.slice A1 p.code.length e1, .slice A2 m e2, .int .i64 x] 90)).alloc (.cells #[.slice A3 q.code.length e3, .slice A4 n e4, .int .i64 x'] 90)) from ((Below.refl _ _).alloc (Nat.le_refl _) _).alloc (by simp) _)
 by_cases he : m = n
 ·subst he
  have HR := hide (show cmpP p q = Pl.lx p.code q.code by rw [HMN.out, if_pos rfl])
  go_enter Tryd.func81, Tryd.ntmps81
  go_wp2_with fail
  refine (compare_any p.code q.code A1 A3 _ _ e1 e3 _ (H1.out.keep B0.out) (H3.out.keep B0.out) (by omega) (by omega)).mono ?_
  rintro e w1 ⟨rfl, rfl⟩
  go_wp2
  go_ret
  exact ⟨by rw [HR.out]; rfl, B0.out⟩
 ·have HR := hide (show cmpP p q = (m : Int) - (n : Int) by rw [HMN.out, if_neg he])
  have hei : ¬ ((m : Int) = (n : Int)) := by omega
  have heb : ((m : Int) != (n : Int)) = true := by rw [bne_iff_ne]; exact hei
  clear he
  go_enter Tryd.func81, Tryd.ntmps81
  go_wp2
  go_ret
  exact ⟨ret_int (by rw [HR.out]), B0.out⟩
end Go.Proofs.YtcaoblilkgajoaaDoor
end
section
namespace Go.Proofs.YtcaoblilkgajoaaDoor.Pl
def leP (p q : Pc) : Prop := kle p.code q.code
theorem leP_trans {p q r : Pc} (h : leP p q) (h' : leP q r) : leP p r := kle_trans h h'
theorem leP_total (p q : Pc) : leP p q ∨ leP q p := kle_total _ _
structure Ins (qs ps : List Pc) (i j : Nat) : Prop where
 ex : ∃ (pre : List Pc) (x : Pc) (mid suf : List Pc), ps = pre ++ x :: (mid ++ suf) ∧ pre.length = j ∧ pre.length + mid.length = i ∧ (pre ++ mid).Pairwise leP ∧ ∀ m, m ∈ mid → leP x m
 perm : ps.Perm qs
theorem Ins.start {qs ps : List Pc} {i : Nat} (hp : ps.Perm qs) (hs : (ps.take i).Pairwise leP) (hi : i < ps.length) : Ins qs ps i i := by
 refine ⟨⟨ps.take i, ps[i], [], ps.drop (i + 1), ?_, by rw [List.length_take]; omega, by rw [List.length_take]; simp; omega, by simpa using hs, fun m h => by simp at h⟩, hp⟩
 rw [List.nil_append, ← List.drop_eq_getElem_cons hi, List.take_append_drop]
theorem snoc_of {l : List Pc} {j : Nat} (h : l.length = j + 1) : ∃ (l' : List Pc) (y : Pc), l = l' ++ [y] ∧ l'.length = j := by
 have hne : l ≠ [] := by intro e; rw [e] at h; simp at h
 refine ⟨l.dropLast, l.getLast hne, (List.dropLast_concat_getLast hne).symm, by rw [List.length_dropLast]; omega⟩
theorem get_mid {a : List Pc} {x : Pc} {b : List Pc} {j : Nat} (h : a.length = j) : (a ++ x :: b)[j]? = some x := by
 subst h
 rw [List.getElem?_append_right (Nat.le_refl _), Nat.sub_self]; rfl
theorem Ins.step {qs ps : List Pc} {i j : Nat} (h : Ins qs ps i (j + 1)) {x y : Pc} (hx : ps[j + 1]? = some x) (hy : ps[j]? = some y) (hn : ¬ leP y x) : Ins qs ((ps.set (j + 1) y).set j x) i j := by
 obtain ⟨pre, x', mid, suf, e, h1, h2, h3, h4⟩ := h.ex
 obtain ⟨l, y', rfl, hl⟩ := snoc_of h1
 rw [e, get_mid h1] at hx
 injection hx with hx
 subst hx
 have e2 : l ++ [y'] ++ x' :: (mid ++ suf) = l ++ y' :: x' :: (mid ++ suf) := by simp
 rw [e, e2, get_mid hl] at hy
 injection hy with hy
 subst hy
 have e3 : (ps.set (j + 1) y').set j x' = l ++ x' :: (y' :: mid ++ suf) := by
  rw [e, e2, List.set_append_right _ _ (by omega), List.set_append_right _ _ (by omega), hl, show j + 1 - j = 1 by omega, Nat.sub_self]
  rfl
 have hle : leP x' y' := (leP_total x' y').resolve_right hn
 refine ⟨⟨l, x', y' :: mid, suf, e3, hl, by simp at h2 ⊢; omega, by simpa using h3, fun m hm => ?_⟩, ?_⟩
 ·rcases List.mem_cons.1 hm with rfl | hm
  ·exact hle
  ·exact h4 m hm
 ·rw [e3]
  refine List.Perm.trans ?_ h.perm
  rw [e, e2]
  exact List.Perm.append_left _ (List.Perm.swap _ _ _)
theorem Ins.stop {qs ps : List Pc} {i j : Nat} (h : Ins qs ps i j) (hs : j = 0 ∨ ∃ x y, ps[j]? = some x ∧ ps[j - 1]? = some y ∧ leP y x) : (ps.take (i + 1)).Pairwise leP := by
 obtain ⟨pre, x, mid, suf, e, h1, h2, h3, h4⟩ := h.ex
 have ht : ps.take (i + 1) = pre ++ x :: mid := by
  have e2 : pre ++ x :: (mid ++ suf) = (pre ++ x :: mid) ++ suf := by simp
  rw [e, e2, List.take_append_of_le_length (by simp; omega), List.take_of_length_le (by simp; omega)]
 have hpre : ∀ a, a ∈ pre → leP a x := by
  intro a ha
  rcases hs with h0 | ⟨x', y, hx, hy, hle⟩
  ·rw [h0] at h1
   rw [List.eq_nil_of_length_eq_zero h1] at ha
   simp at ha
  ·rw [e, get_mid h1] at hx
   injection hx with hx
   subst hx
   cases j with
   | zero => rw [List.eq_nil_of_length_eq_zero h1] at ha; simp at ha
   | succ j =>
     obtain ⟨l, y', rfl, hl⟩ := snoc_of h1
     have e2 : l ++ [y'] ++ x :: (mid ++ suf) = l ++ y' :: x :: (mid ++ suf) := by simp
     rw [e, e2, show j + 1 - 1 = j by omega, get_mid hl] at hy
     injection hy with hy
     subst hy
     rcases List.mem_append.1 ha with ha | ha
     ·have h5 : (l ++ y' :: mid).Pairwise leP := by simpa using h3
      exact leP_trans ((List.pairwise_append.1 h5).2.2 a ha y' (by simp)) hle
     ·obtain rfl : a = y' := by simpa using ha
      exact hle
 rw [ht]
 have h6 := List.pairwise_append.1 h3
 refine List.pairwise_append.2 ⟨h6.1, List.pairwise_cons.2 ⟨h4, h6.2.1⟩, fun a ha b hb => ?_⟩
 rcases List.mem_cons.1 hb with rfl | hb
 ·exact hpre a ha
 ·exact h6.2.2 a ha b hb
end Go.Proofs.YtcaoblilkgajoaaDoor.Pl
end
section
namespace Go.Proofs.YtcaoblilkgajoaaDoor
open Go Go.RowKit
attribute [local go_sem ↓] Go.wp_at_zero Go.wp_at_succ
theorem cmp_kle {p q : Pl.Pc} (hp : p.code.length = 5 * p.order.length) (hq : q.code.length = 5 * q.order.length) : cmpP p q < 0 ↔ ¬ Pl.leP q p := by
 unfold cmpP Pl.leP Pl.kle
 by_cases h : p.order.length = q.order.length
 ·rw [if_pos h]
  have := Pl.lx_neg p.code q.code
  constructor
  ·rintro h1 (h2 | ⟨_, h2⟩) <;> omega
  ·intro h1
   rcases Int.lt_or_le (Pl.lx p.code q.code) 0 with h2 | h2
   ·exact h2
   ·exact absurd (.inr ⟨by omega, by omega⟩) h1
 ·rw [if_neg h]
  constructor
  ·rintro h1 (h2 | ⟨h2, _⟩) <;> omega
  ·intro h1
   rcases Nat.lt_or_ge p.order.length q.order.length with h2 | h2
   ·omega
   ·exact absurd (.inl (by omega)) h1
theorem PcsV.at_ {W : World} : ∀ {cs : List Value} {ps : List Pl.Pc}, PcsV W cs ps → ∀ {j : Nat} {p : Pl.Pc}, ps[j]? = some p → ∃ vC vO x, PcV W vC vO x p ∧ cs[j * 3]? = some vC ∧ cs[j * 3 + 1]? = some vO ∧ cs[j * 3 + 2]? = some (.int .i64 x)
 | [], [], _, j, p, h => by simp at h
 | vC :: vO :: .int .i64 x :: r, q :: ps, hv, 0, p, h => by
   obtain rfl : q = p := by simpa using h
   exact ⟨vC, vO, x, hv.1, rfl, rfl, rfl⟩
 | vC :: vO :: .int .i64 x :: r, q :: ps, hv, j + 1, p, h => by
   obtain ⟨a, b, y, h1, h2, h3, h4⟩ := PcsV.at_ hv.2 (j := j) (p := p) (by simpa using h)
   refine ⟨a, b, y, h1, ?_, ?_, ?_⟩
   ·rw [show (j + 1) * 3 = j * 3 + 3 by omega]; exact h2
   ·rw [show (j + 1) * 3 + 1 = j * 3 + 1 + 3 by omega]; exact h3
   ·rw [show (j + 1) * 3 + 2 = j * 3 + 2 + 3 by omega]; exact h4
theorem PcsV.put {W : World} {vC vO : Value} {x : Int} {p : Pl.Pc} (hp : PcV W vC vO x p) : ∀ {cs : List Value} {ps : List Pl.Pc}, PcsV W cs ps → ∀ (j : Nat), j < ps.length → PcsV W (((cs.set (j * 3) vC).set (j * 3 + 1) vO).set (j * 3 + 2) (.int .i64 x)) (ps.set j p)
 | [], [], _, j, h => by simp at h
 | vC' :: vO' :: .int .i64 x' :: r, q :: ps, hv, 0, h => ⟨hp, hv.2⟩
 | vC' :: vO' :: .int .i64 x' :: r, q :: ps, hv, j + 1, h => by
   have ih := PcsV.put hp hv.2 j (by simpa using h)
   rw [show (j + 1) * 3 = j * 3 + 3 by omega, show j * 3 + 3 + 1 = (j * 3 + 1) + 3 by omega, show j * 3 + 3 + 2 = (j * 3 + 2) + 3 by omega]
   exact ⟨hv.1, ih⟩
end Go.Proofs.YtcaoblilkgajoaaDoor
end
section
namespace Go.Proofs.YtcaoblilkgajoaaDoor
open Go Go.RowKit
attribute [local go_sem ↓] Go.wp_at_zero Go.wp_at_succ
structure SI (base : Nat) (w : World) (A : Option Addr) (n c : Nat) (cs : List Value) (ps : List Pl.Pc) (W : World) : Prop where
 own : W.ownsRow base 90 3 (.slice A n c) n cs
 pv : PcsV W cs ps
 len : ps.length = n
 bel : Below base w W
 big : base ≤ W.heap.size
theorem SI.below {base : Nat} {w W W' : World} {A : Option Addr} {n c : Nat} {cs : List Value} {ps : List Pl.Pc} (h : SI base w A n c cs ps W) (hb : Below W.heap.size W W') : SI base w A n c cs ps W' :=
 ⟨own_below h.own hb, h.pv.map (fun p => p.below hb), h.len, h.bel.trans (hb.mono h.big), Nat.le_trans h.big hb.size⟩
theorem own_free {W : World} {base s g n c : Nat} {e : TypeId} {xs : List Value} (h : W.ownsRow base e s (.slice (some ⟨g, 0, none⟩) n c) n xs) : ∀ o, W.frozen? ⟨g, o, none⟩ = false := by
 rcases h.2 with ⟨h1, _⟩ | ⟨g', cap, cur, h1, _, h3, _⟩
 ·cases h1
 ·injection h1 with h1
  injection h1 with h1
  injection h1 with h1
  subst h1
  exact Row.free (t := e) (vs := cur.toList) (show W.heap[g]? = _ by rw [h3])
theorem own_setIn {W : World} {base s g n c k : Nat} {e : TypeId} {xs : List Value} (h : W.ownsRow base e s (.slice (some ⟨g, 0, none⟩) n c) n xs) (v : Value) : (W.setCell ⟨g, k, none⟩ v).ownsRow base e s (.slice (some ⟨g, 0, none⟩) n c) n (xs.set k v) := by
 refine ⟨by rw [List.length_set]; exact h.1, ?_⟩
 rcases h.2 with ⟨h1, _⟩ | ⟨g', cap, cur, h1, h2, h3, h4, h5, h6, h7⟩
 ·cases h1
 ·injection h1 with h1 h1b h1c
  injection h1 with h1
  injection h1 with h1
  subst h1
  have hr : Row W g e cur.toList := by show W.heap[g]? = _; rw [h3]
  have hs := hr.set k v
  refine .inr ⟨g, cap, (cur.toList.set k v).toArray, by rw [h1c], h2, hs, h4, h5, by simp; exact h6, ?_⟩
  simp only [List.toList_toArray]
  rw [List.take_set, h7]
def PcSz (p : Pl.Pc) : Prop := p.order.length ≤ 64 ∧ p.code.length = 5 * p.order.length
theorem own_rowE {W : World} {base s g n c : Nat} {e : TypeId} {xs : List Value} (h : W.ownsRow base e s (.slice (some ⟨g, 0, none⟩) n c) n xs) : base ≤ g ∧ ∃ us, Row W g e us := by
 rcases h.2 with ⟨h1, _⟩ | ⟨g', cap, cur, h1, h2, h3, _⟩
 ·cases h1
 ·injection h1 with h1
  injection h1 with h1
  injection h1 with h1
  subst h1
  exact ⟨h2, cur.toList, by show W.heap[g]? = _; rw [h3]⟩
theorem PcV.store3 {W : World} {vC vO : Value} {x : Int} {p : Pl.Pc} (h : PcV W vC vO x p) {g : Nat} {us : List Value} (hr : Row W g 90 us) (a b c : Nat) (y0 y1 y2 : Value) :
 PcV (((W.setCell ⟨g, a, none⟩ y0).setCell ⟨g, b, none⟩ y1).setCell ⟨g, c, none⟩ y2) vC vO x p :=
 ((h.store hr (by decide) y0).store (hr.set a y0) (by decide) y1).store ((hr.set a y0).set b y1) (by decide) y2
theorem SI.set3 {base g n c : Nat} {w W : World} {cs : List Value} {ps : List Pl.Pc} (h : SI base w (some ⟨g, 0, none⟩) n c cs ps W) {vC vO : Value} {x : Int} {p : Pl.Pc} (hp : PcV W vC vO x p) {j : Nat} (hj : j < ps.length) :
 SI base w (some ⟨g, 0, none⟩) n c (((cs.set (j * 3) vC).set (j * 3 + 1) vO).set (j * 3 + 2) (.int .i64 x)) (ps.set j p) (((W.setCell ⟨g, j * 3, none⟩ vC).setCell ⟨g, j * 3 + 1, none⟩ vO).setCell ⟨g, j * 3 + 2, none⟩ (.int .i64 x)) := by
 obtain ⟨hb, us, hr⟩ := own_rowE h.own
 exact ⟨own_setIn (own_setIn (own_setIn h.own _) _) _, PcsV.put (hp.store3 hr _ _ _ _ _ _) (h.pv.map (fun q => q.store3 hr _ _ _ _ _ _)) j hj, by rw [List.length_set]; exact h.len, ((h.bel.setCell (by show _ ≤ g; exact hb) _).setCell (by show _ ≤ g; exact hb) _).setCell (by show _ ≤ g; exact hb) _, by simpa using h.big⟩
set_option maxRecDepth 100000 in
set_option maxHeartbeats 8000000 in
theorem isort_any (base : Nat) (A : Option Addr) (n c : Nat) (cs : List Value) (qs : List Pl.Pc) (w : World) (h0 : SI base w A n c cs qs w) (hsz : ∀ p, p ∈ qs → PcSz p) (hn : n ≤ 64) :
 Calls Tryd.prog 104 #[.slice A n c, .int .i64 0, .int .i64 (n : Int), .func (.func 81) #[] #[]] w fun e w' => (∃ v, e = .returned v) ∧ ∃ cs' ps', SI base w A n c cs' ps' w' ∧ ps'.Perm qs ∧ ps'.Pairwise Pl.leP := by
 have H0 := hide h0
 have HSZ := hide hsz
 clear h0 hsz
 obtain ⟨N, hN1, hN2, hN3⟩ : ∃ N, n ≤ N ∧ 1 ≤ N ∧ N ≤ 64 := ⟨max n 1, by omega, by omega, by omega⟩
 go_enter Tryd.func104, Tryd.ntmps104
 go_wp2
 go_loopg [8, 9] (N - 1) (fun g s8 s9 wx => ∃ (i : Nat) (cs : List Value) (ps : List Pl.Pc), i + g = N ∧ s8 = .int .i64 (i : Int) ∧ SI base w A n c cs ps wx ∧ ps.Perm qs ∧ (ps.take i).Pairwise Pl.leP)
 case atStart => exact ⟨1, cs, qs, by omega, rfl, H0.out, List.Perm.refl _, by
  cases qs with
  | nil => simp
  | cons a l => simp⟩
 case round =>
  clear H0
  obtain ⟨i, cs, ps, hig, rfl, hk, hpm, hso⟩ := hrel
  have HIG := hide hig
  have K0 := hide hk
  have HPM := hide hpm
  have HSO := hide hso
  have hin : i ≤ N := by omega
  clear hk hpm hso
  obtain ⟨go, rfl⟩ : ∃ go, go = gk := ⟨_, rfl⟩
  by_cases hi : i < n
  ·have hii : (i : Int) < (n : Int) := by omega
   have I0 := hide (Pl.Ins.start HPM.out HSO.out (by rw [K0.out.len]; exact hi))
   clear hig
   go_wp2_with fail
   go_loopg [9] i (fun g s9 wx => ∃ (j : Nat) (cs : List Value) (ps : List Pl.Pc), j = g ∧ s9 = .int .i64 (j : Int) ∧ SI base w A n c cs ps wx ∧ Pl.Ins qs ps i j)
   case atStart => exact ⟨i, _, _, rfl, rfl, K0.out, I0.out⟩
   case round =>
    clear I0 K0 HSO HPM
    obtain ⟨j, cs, ps, hjg, rfl, hk, hins⟩ := hrel
    have HJG := hide hjg
    have K0 := hide hk
    have HI := hide hins
    clear hk hins hjg
    have hnA : 0 < n := by omega
    obtain ⟨g, cap, hA, hcap, hgl⟩ := World.ownsRow.form K0.out.own hnA
    injection hA with hA _ hcc
    subst hA
    subst hcc
    by_cases hj0 : j = 0
    ·subst hj0
     have HST := hide (HI.out.stop (.inl rfl))
     have hz : ¬ ((0 : Int) < ((0 : Nat) : Int)) := by omega
     go_upto_region 4 with fail
     go_quiet (fail)
     go_wp2
     go_roundg (go - 1)
     case measure => have := HIG.out; omega
     case rel => exact ⟨i + 1, cs, ps, by have := HIG.out; omega, by go_num, K0.out.below (below_drewN (Below.refl _ _) _), HI.out.perm, HST.out⟩
    ·obtain ⟨k, rfl⟩ : ∃ k, j = k + 1 := ⟨j - 1, by omega⟩
     clear hj0
     obtain ⟨pre, x0, mid, suf, he1, he2, he3, _, _⟩ := HI.out.ex
     have hlen : k + 1 < ps.length := by rw [he1]; simp; omega
     have hkn : k + 1 < n := by rw [← K0.out.len]; exact hlen
     clear he1 he2 he3
     obtain ⟨x, hx⟩ : ∃ x, ps[k + 1]? = some x := ⟨_, List.getElem?_eq_getElem hlen⟩
     obtain ⟨y, hy⟩ : ∃ y, ps[k]? = some y := ⟨_, List.getElem?_eq_getElem (by omega)⟩
     have hsx := HSZ.out x (HI.out.perm.mem_iff.1 (List.mem_of_getElem? hx))
     have hsy := HSZ.out y (HI.out.perm.mem_iff.1 (List.mem_of_getElem? hy))
     obtain ⟨a0, a1, a2, hpx, ca0, ca1, ca2⟩ := K0.out.pv.at_ hx
     obtain ⟨b0, b1, b2, hpy, cb0, cb1, cb2⟩ := K0.out.pv.at_ hy
     have HX := hide hx
     have HY := hide hy
     have HPX := hide hpx
     have HPY := hide hpy
     have CA := fun (t : Nat) (u : Value) (ht : (k + 1) * 3 + t < n * 3) (e : cs[(k + 1) * 3 + t]? = some u) => (show wr.cell? ⟨g, (k + 1) * 3 + t, none⟩ = some u by rw [World.ownsRow.cellAt K0.out.own _ ht]; exact e)
     have CB := fun (t : Nat) (u : Value) (ht : k * 3 + t < n * 3) (e : cs[k * 3 + t]? = some u) => (show wr.cell? ⟨g, k * 3 + t, none⟩ = some u by rw [World.ownsRow.cellAt K0.out.own _ ht]; exact e)
     have x0 := CA 0 a0 (by omega) ca0
     have x1 := CA 1 a1 (by omega) ca1
     have x2 := CA 2 _ (by omega) ca2
     have y0 := CB 0 b0 (by omega) cb0
     have y1 := CB 1 b1 (by omega) cb1
     have y2 := CB 2 _ (by omega) cb2
     rw [Nat.add_zero] at x0 y0
     clear CA CB ca0 ca1 ca2 cb0 cb1 cb2 hx hy
     obtain ⟨v, hv⟩ : ∃ v, v = cmpP x y := ⟨_, rfl⟩
     have HV := hide hv
     have HCM := hide (fun (p : Cls (fun W => Below wr.heap.size wr W)) => calls_cls (C := (fun W => Below wr.heap.size wr W)) (cmp_pieces a0 a1 b0 b1 a2 b2 x y p.w (HPX.out.below p.ok) (HPY.out.below p.ok) hsx.1 hsy.1 (by rw [hsx.2]; have := hsx.1; omega) (by rw [hsy.2]; have := hsy.1; omega)) (fun e w' h => ⟨h.1, p.ok.trans (h.2.mono p.ok.size)⟩))
     have HKL := hide (cmp_kle hsx.2 hsy.2)
     rw [← hv] at HCM HKL
     clear hpx hpy hsx hsy hv
     go_upto_region 4 with fail
     by_cases hv0 : v < 0
     ·have hvb : decide (v < 0) = true := decide_eq_true hv0
      have hkp : (0 : Int) < (k : Int) + 1 := by omega
      have c0 : ∀ p : Cls (fun W => Below wr.heap.size wr W), p.w.cell? ⟨g, (k + 1) * 3, none⟩ = some a0 := fun p => cell_below x0 p.ok
      have c1 : ∀ p : Cls (fun W => Below wr.heap.size wr W), p.w.cell? ⟨g, (k + 1) * 3 + 1, none⟩ = some a1 := fun p => cell_below x1 p.ok
      have c2 : ∀ p : Cls (fun W => Below wr.heap.size wr W), p.w.cell? ⟨g, (k + 1) * 3 + 2, none⟩ = some (.int .i64 a2) := fun p => cell_below x2 p.ok
      have c3 : ∀ p : Cls (fun W => Below wr.heap.size wr W), p.w.cell? ⟨g, k * 3, none⟩ = some b0 := fun p => cell_below y0 p.ok
      have c4 : ∀ p : Cls (fun W => Below wr.heap.size wr W), p.w.cell? ⟨g, k * 3 + 1, none⟩ = some b1 := fun p => cell_below y1 p.ok
      have c5 : ∀ p : Cls (fun W => Below wr.heap.size wr W), p.w.cell? ⟨g, k * 3 + 2, none⟩ = some (.int .i64 b2) := fun p => cell_below y2 p.ok
      refine wp_region_cls (fun W => Below wr.heap.size wr W) (by kernel_rfl) (by kernel_rfl) (Below.refl wr.heap.size wr).drew (fun hne => ?_)
      repeat (go_big_quiet_step (((go_at_call 81; exact HCM.out _))))
      refine wpQuiet_nil ?_
      rintro _ ⟨p, rfl⟩
      have K1 := hide (K0.out.below p.ok)
      have HPX1 := hide (HPX.out.below p.ok)
      have HPY1 := hide (HPY.out.below p.ok)
      have q0 := c0 p
      have q1 := c1 p
      have q2 := c2 p
      have q3 := c3 p
      have q4 := c4 p
      have q5 := c5 p
      have fz : ∀ o, p.w.frozen? ⟨g, o, none⟩ = false := own_free K1.out.own
      clear c0 c1 c2 c3 c4 c5 x0 x1 x2 y0 y1 y2 HCM K0 HPX HPY
      obtain ⟨D0, e0, h0, h0b⟩ := HPX1.out.c
      obtain ⟨D1, e1, h1, h1b⟩ := HPX1.out.o
      obtain ⟨E0, i0, h2, h2b⟩ := HPY1.out.c
      obtain ⟨E1, i1, h3, h3b⟩ := HPY1.out.o
      subst h0
      subst h1
      subst h2
      subst h3
      clear h0b h1b h2b h3b
      obtain ⟨V, hV⟩ : ∃ V, V = p.w := ⟨_, rfl⟩
      rw [← hV] at K1 HPX1 HPY1 q0 q1 q2 q3 q4 q5 fz ⊢
      have INS := hide (HI.out.step HX.out HY.out (HKL.out.1 hv0))
      clear hV HI hv0 hvb
      go_upto_region 6 with fail
      go_region
      all_goals (go_wp2_with fail)
      go_roundg (gk - 1)
      case measure => have := HJG.out; omega
      case rel =>
       obtain ⟨_, us, hr⟩ := own_rowE K1.out.own
       have F1 := K1.out.set3 HPY1.out hlen
       have F2 := F1.set3 (HPX1.out.store3 hr _ _ _ _ _ _) (j := k) (by rw [List.length_set]; omega)
       exact ⟨k, _, _, by have := HJG.out; omega, rfl, F2.below (Below.refl _ _).drew, INS.out⟩
     ·have hvb : decide (v < 0) = false := decide_eq_false hv0
      have hkp : (0 : Int) < (k : Int) + 1 := by omega
      have HST := hide (HI.out.stop (.inr ⟨x, y, HX.out, HY.out, by
       rcases Classical.em (Pl.leP y x) with h | h
       ·exact h
       ·exact absurd (HKL.out.2 h) hv0⟩))
      have c0 : ∀ p : Cls (fun W => Below wr.heap.size wr W), p.w.cell? ⟨g, (k + 1) * 3, none⟩ = some a0 := fun p => cell_below x0 p.ok
      have c1 : ∀ p : Cls (fun W => Below wr.heap.size wr W), p.w.cell? ⟨g, (k + 1) * 3 + 1, none⟩ = some a1 := fun p => cell_below x1 p.ok
      have c2 : ∀ p : Cls (fun W => Below wr.heap.size wr W), p.w.cell? ⟨g, (k + 1) * 3 + 2, none⟩ = some (.int .i64 a2) := fun p => cell_below x2 p.ok
      have c3 : ∀ p : Cls (fun W => Below wr.heap.size wr W), p.w.cell? ⟨g, k * 3, none⟩ = some b0 := fun p => cell_below y0 p.ok
      have c4 : ∀ p : Cls (fun W => Below wr.heap.size wr W), p.w.cell? ⟨g, k * 3 + 1, none⟩ = some b1 := fun p => cell_below y1 p.ok
      have c5 : ∀ p : Cls (fun W => Below wr.heap.size wr W), p.w.cell? ⟨g, k * 3 + 2, none⟩ = some (.int .i64 b2) := fun p => cell_below y2 p.ok
      refine wp_region_cls (fun W => Below wr.heap.size wr W) (by kernel_rfl) (by kernel_rfl) (Below.refl wr.heap.size wr).drew (fun hne => ?_)
      repeat (go_big_quiet_step (((go_at_call 81; exact HCM.out _))))
      refine wpQuiet_nil ?_
      rintro _ ⟨p, rfl⟩
      clear c0 c1 c2 c3 c4 c5 x0 x1 x2 y0 y1 y2 HCM
      go_wp2
      go_roundg (go - 1)
      case measure => have := HIG.out; omega
      case rel => exact ⟨i + 1, cs, ps, by have := HIG.out; omega, by go_num, K0.out.below p.ok, HI.out.perm, HST.out⟩
  ·have hii : ¬ ((i : Int) < (n : Int)) := by omega
   have HE := hide (show ps.Pairwise Pl.leP by
    have h := HSO.out
    rw [List.take_of_length_le (by rw [K0.out.len]; omega)] at h
    exact h)
   clear hig
   go_wp2
   exact bodyPost_end (by simp [results, Tryd.results104, go_sem]; rfl) rfl ⟨⟨_, rfl⟩, _, _, K0.out, HPM.out, HE.out⟩
end Go.Proofs.YtcaoblilkgajoaaDoor
end
section
namespace Go.Proofs.YtcaoblilkgajoaaDoor
open Go Go.RowKit
theorem lst5_ok {d : Pl.Dg} (hd : Pl.Wf d) {ls : List Int} {P : Nat} (hL : Pl.LB d ls P) (hp : ∀ a, a < d.n → 0 ≤ Pl.pv ls a) {i : Nat} {p : Pl.Pc} (h : Pl.Lst5 d (Gl ls d.n i) p) : Pl.PcOk d p ∧ ∀ c, c ∈ p.order ↔ c < d.n ∧ Pl.pv ls c = (i : Int) := by
 obtain ⟨r, h1, h2, h3⟩ := h.is
 obtain ⟨hr, hri⟩ := mem_Gl.1 h1
 have key : ∀ c, c < d.n → (Pl.pv ls c = (i : Int) ↔ Pl.Comp d r c) := fun c hc => by
  constructor
  ·intro e
   exact hL.conn r c hr hc (hp r hr) (by rw [hri, e])
  ·intro e
   rw [hL.same r c hr e (hp r hr), hri]
 refine ⟨h.ok hd hr (fun c => ?_), fun c => ?_⟩
 ·rw [mem_Gl]
  constructor
  ·rintro ⟨hc, e⟩
   exact ⟨hc, (key c hc).1 e⟩
  ·rintro ⟨hc, e⟩
   exact ⟨hc, (key c hc).2 e⟩
 ·rw [h3, Pl.ord_mem hd hr]
  constructor
  ·intro e
   have hc : c < d.n := ((Pl.ord_ok hd hr).mem c ((Pl.ord_mem hd hr c).2 e)).1
   exact ⟨hc, (key c hc).2 e⟩
  ·rintro ⟨hc, e⟩
   exact (key c hc).1 e
theorem pcs_groups {d : Pl.Dg} (hd : Pl.Wf d) {ls : List Int} {P : Nat} (hL : Pl.LB d ls P) (hp : ∀ a, a < d.n → 0 ≤ Pl.pv ls a) {ps : List Pl.Pc} (hlen : ps.length = P) (his : ∀ (i : Nat) (p : Pl.Pc), ps[i]? = some p → Pl.Lst5 d (Gl ls d.n i) p) : Pl.Pcs d ps := by
 have hok : ∀ p, p ∈ ps → Pl.PcOk d p := fun p hm => by
  obtain ⟨i, hi, rfl⟩ := List.getElem_of_mem hm
  exact (lst5_ok hd hL hp (his i _ (List.getElem?_eq_getElem hi))).1
 refine ⟨hok, ?_, fun c hc => ?_⟩
 ·refine List.pairwise_flatMap.2 ⟨fun p hm => ?_, ?_⟩
  ·obtain ⟨r, hr, _, e, _⟩ := hok p hm
   rw [e]; exact (Pl.ord_ok hd hr).nd
  ·rw [List.pairwise_iff_getElem]
   intro i j hi hj hij x hx y hy e
   subst e
   have h1 := ((lst5_ok hd hL hp (his i _ (List.getElem?_eq_getElem hi))).2 x).1 hx
   have h2 := ((lst5_ok hd hL hp (his j _ (List.getElem?_eq_getElem hj))).2 x).1 hy
   have := h1.2.symm.trans h2.2
   omega
 ·have h0 := hp c hc
  have h1 := (hL.lo c hc).2
  obtain ⟨i, hi⟩ : ∃ i : Nat, Pl.pv ls c = (i : Int) := ⟨(Pl.pv ls c).toNat, by omega⟩
  have hiP : i < ps.length := by rw [hlen]; omega
  exact ⟨ps[i], List.getElem_mem hiP, ((lst5_ok hd hL hp (his i _ (List.getElem?_eq_getElem hiP))).2 c).2 ⟨hc, hi⟩⟩
theorem pcs_perm {d : Pl.Dg} {ps qs : List Pl.Pc} (h : Pl.Pcs d ps) (hp : qs.Perm ps) : Pl.Pcs d qs :=
 ⟨fun p hq => h.ok p (hp.mem_iff.1 hq), (hp.flatMap_right Pl.Pc.order).nodup_iff.2 h.nd, fun c hc => by
   obtain ⟨p, h1, h2⟩ := h.all c hc
   exact ⟨p, hp.mem_iff.2 h1, h2⟩⟩
theorem pcs_sz {d : Pl.Dg} (hd : Pl.Wf d) {ps : List Pl.Pc} (h : Pl.Pcs d ps) : ∀ p, p ∈ ps → PcSz p := fun p hm => by
 obtain ⟨r, hr, e1, e2, _⟩ := h.ok p hm
 refine ⟨?_, (h.ok p hm).len⟩
 have h1 := (Pl.ord_ok hd hr).nd
 have h2 : ∀ c, c ∈ Pl.ord d r → c < d.n := fun c hc => ((Pl.ord_ok hd hr).mem c hc).1
 have := hd.few
 rw [e2]
 have h3 := Pl.nodup_len h1 h2
 omega
end Go.Proofs.YtcaoblilkgajoaaDoor
end
section
namespace Go.Proofs.YtcaoblilkgajoaaDoor
open Go Go.RowKit
theorem ints_one (ys : List Int) : ∀ u ∈ ys.map (Value.int .i64), u.oneCell' = true := by
 intro u hu
 obtain ⟨x, _, rfl⟩ := List.mem_map.1 hu
 rfl
section
variable {P : Program} (w : World)
theorem run_append_int (base : Nat) (t ty e : TypeId) (i : TypeInfo) (z : Value) (bytes : Nat) (ht : P.underlying t = some (.slice e)) (hi : P.info? e = some i) (hz : i.zero = some z)
 (hsize : i.size = 1) (hby : i.bytes = bytes) (hzs : z.cells.size = 1)
 (v : Value) (n : Nat) (xs : List Value) (hown : w.ownsRow base e 1 v n xs)
 (A : Option Addr) (m c : Nat) (ys : List Int) (hin : IntsAt w A m ys)
 (h63 : n + m ≤ maxLen) (hbytes : (n + m) * bytes ≤ 140737488355328) (hbase : base ≤ w.heap.size) :
 ∃ v' w', (Builtin.append_ #[t, t] ty #[v, .slice A m c]).run P w = .ok v' w' ∧ w'.ownsRow base e 1 v' (n + m) (xs ++ ys.map (.int .i64)) ∧ w.grownBy w' v.ownBlock := by
 have hl := hin.len
 rcases Nat.eq_zero_or_pos m with h0 | h0
 ·subst h0
  obtain rfl : ys = [] := List.eq_nil_of_length_eq_zero (by omega)
  have hr : (Builtin.append_ #[t, t] ty #[v, .slice A 0 c]).run P w = .ok v w := by
   rcases hown.2 with ⟨rfl, rfl⟩ | ⟨g, cap, cur, rfl, _, _, hnc, _⟩
   ·cases A <;> simp [Builtin.append_, run_underlying ht, sizeOf, typeInfo, hi, Builtin.lenOf, Builtin.firstCells, loadCells, loadCellsFrom]
   ·cases A <;> simp [Builtin.append_, run_underlying ht, sizeOf, typeInfo, hi, Builtin.lenOf, Builtin.firstCells, hnc, storeCells, loadCells, loadCellsFrom]
  refine ⟨v, w, hr, by simpa using hown, ⟨rfl, rfl, rfl, Nat.le_refl _, fun _ _ _ => rfl⟩⟩
 ·obtain ⟨b, o, rfl, hc⟩ := hin.2 h0
  obtain ⟨v', w', hr, h2, h3, _⟩ := run_append_own (P := P) w base t ty e i z 1 bytes ht hi hz hsize hby hzs (by omega) v n xs hown ⟨b, o, none⟩ m c (ys.map (.int .i64)) (by simpa using hl) (fun j u hu => by
   have : (⟨b, o, none⟩ : Addr).add j = ⟨b, o + j, none⟩ := by unfold Addr.add; split <;> simp_all
   rw [this]; exact hc j u hu) (ints_one ys) h63 hbytes hbase
  exact ⟨v', w', hr, h2, h3⟩
theorem wp_append_int {o : Oper} {a : Act} {K : Act → World → Prop} {Q : Exit → Act → World → Prop} (s x : Operand) (t : TypeId)
 (ho : o.op = .call { callee := .builtin .append, args := #[s, x], argTypes := #[t, t] })
 (base : Nat) (e : TypeId) (i : TypeInfo) (z : Value) (bytes : Nat) (ht : P.underlying t = some (.slice e)) (hi : P.info? e = some i) (hz : i.zero = some z)
 (hsize : i.size = 1) (hby : i.bytes = bytes) (hzs : z.cells.size = 1)
 (v : Value) (n : Nat) (xs : List Value) (hs : a.eval s = v) (hown : w.ownsRow base e 1 v n xs)
 (A : Option Addr) (m c : Nat) (ys : List Int) (hx : a.eval x = .slice A m c) (hin : IntsAt w A m ys)
 (h63 : n + m ≤ maxLen) (hbytes : (n + m) * bytes ≤ 140737488355328) (hbase : base ≤ w.heap.size)
 (h : ∀ v' w', w'.ownsRow base e 1 v' (n + m) (xs ++ ys.map (.int .i64)) → w.grownBy w' v.ownBlock → K (a.put o.dst v') w') : o.wp P a w K Q := by
 obtain ⟨v', w', hr, h2, h3⟩ := run_append_int (P := P) w base t o.type e i z bytes ht hi hz hsize hby hzs v n xs hown A m c ys hin h63 hbytes hbase
 unfold Oper.wp execOp
 simp only [ho, resolve, invoke, builtin, Sem.run_bind, Sem.run_pure, Result.andThen_ok, List.map_toArray, List.map_cons, List.map_nil, hs, hx, hr]
 exact h v' w' h2 h3
theorem wpList_append_int {ops : Array Oper} {rest : List Oper} {o : Oper} {a : Act} {Q : Exit → Act → World → Prop} (hgd : o.guard = none) (s x : Operand) (t : TypeId)
 (ho : o.op = .call { callee := .builtin .append, args := #[s, x], argTypes := #[t, t] })
 (base : Nat) (e : TypeId) (i : TypeInfo) (z : Value) (bytes : Nat) (ht : P.underlying t = some (.slice e)) (hi : P.info? e = some i) (hz : i.zero = some z)
 (hsize : i.size = 1) (hby : i.bytes = bytes) (hzs : z.cells.size = 1)
 (v : Value) (n : Nat) (xs : List Value) (hs : a.eval s = v) (hown : w.ownsRow base e 1 v n xs)
 (A : Option Addr) (m c : Nat) (ys : List Int) (hx : a.eval x = .slice A m c) (hin : IntsAt w A m ys)
 (h63 : n + m ≤ maxLen) (hbytes : (n + m) * bytes ≤ 140737488355328) (hbase : base ≤ w.heap.size)
 (h : ∀ v' w', w'.ownsRow base e 1 v' (n + m) (xs ++ ys.map (.int .i64)) → w.grownBy w' v.ownBlock → wpList P ops Q rest (a.put o.dst v') w') : wpList P ops Q (o :: rest) a w :=
 wpList_plain hgd fun _ hK => wp_append_int w s x t ho base e i z bytes ht hi hz hsize hby hzs v n xs hs hown A m c ys hx hin h63 hbytes hbase fun v' w' h2 h3 => hK _ _ (h v' w' h2 h3)
end
end Go.Proofs.YtcaoblilkgajoaaDoor
end
section
namespace Go.Proofs.YtcaoblilkgajoaaDoor
open Go Go.RowKit
attribute [local go_sem ↓] Go.wp_at_zero Go.wp_at_succ
set_option maxRecDepth 100000 in
set_option maxHeartbeats 2000000 in
theorem stable_any (base : Nat) (A : Option Addr) (n c : Nat) (cs : List Value) (qs : List Pl.Pc) (w : World) (h0 : SI base w A n c cs qs w) (hsz : ∀ p, p ∈ qs → PcSz p) (hn : n < 20) :
 Calls Tryd.prog 90 #[.slice A n c, .int .i64 (n : Int), .func (.func 81) #[] #[]] w fun e w' => (∃ v, e = .returned v) ∧ ∃ cs' ps', SI base w A n c cs' ps' w' ∧ ps'.Perm qs ∧ ps'.Pairwise Pl.leP := by
 have H0 := hide h0
 have HSZ := hide hsz
 have hn1 : ¬ ((20 : Int) ≤ (n : Int)) := by omega
 have hn2 : ¬ ((20 : Int) < (n : Int)) := by omega
 clear h0 hsz
 go_enter Tryd.func90, Tryd.ntmps90
 go_wp2_with fail
 go_loopg [7, 8] 0 (fun g s7 s8 wx => s7 = .int .i64 0 ∧ s8 = .int .i64 20 ∧ wx = w)
 case atStart => exact ⟨rfl, rfl, rfl⟩
 case round =>
  obtain ⟨rfl, rfl, rfl⟩ := hrel
  go_wp2_with fail
  refine (isort_any base A n c cs qs _ H0.out HSZ.out (by omega)).mono ?_
  rintro e w1 ⟨⟨v, rfl⟩, cs', ps', hS, hP, hW⟩
  have HR := hide (show ∃ cs' ps', SI base wr A n c cs' ps' w1 ∧ ps'.Perm qs ∧ ps'.Pairwise Pl.leP from ⟨cs', ps', hS, hP, hW⟩)
  clear hS hP hW
  go_wp2_with fail
  go_loopg [6, 7, 8] 0 (fun g s6 s7 s8 wx => s6 = .int .i64 20 ∧ wx = w1)
  case atStart => exact ⟨rfl, rfl⟩
  case round =>
   obtain ⟨rfl, rfl⟩ := hrel
   go_wp2
   exact bodyPost_end (by simp [results, Tryd.results90, go_sem]; rfl) rfl ⟨⟨_, rfl⟩, HR.out⟩
set_option maxRecDepth 100000 in
set_option maxHeartbeats 2000000 in
theorem isort_none (A : Option Addr) (n c : Nat) (w : World) (hn : n ≤ 64) :
 Calls Tryd.prog 104 #[.slice A n c, .int .i64 (n : Int), .int .i64 (n : Int), .func (.func 81) #[] #[]] w fun e w' => (∃ v, e = .returned v) ∧ w' = w := by
 have h1 : ¬ ((n : Int) + 1 < (n : Int)) := by omega
 go_enter Tryd.func104, Tryd.ntmps104
 go_wp2
 go_loopg [8, 9] 0 (fun g s8 s9 wx => s8 = .int .i64 ((n : Int) + 1) ∧ wx = w)
 case atStart => exact ⟨rfl, rfl⟩
 case round =>
  obtain ⟨rfl, rfl⟩ := hrel
  go_wp2
  exact bodyPost_end (by simp [results, Tryd.results104, go_sem]; rfl) rfl ⟨⟨_, rfl⟩, rfl⟩
set_option maxRecDepth 100000 in
set_option maxHeartbeats 2000000 in
theorem stable_20 (base : Nat) (A : Option Addr) (c : Nat) (cs : List Value) (qs : List Pl.Pc) (w : World) (h0 : SI base w A 20 c cs qs w) (hsz : ∀ p, p ∈ qs → PcSz p) :
 Calls Tryd.prog 90 #[.slice A 20 c, .int .i64 20, .func (.func 81) #[] #[]] w fun e w' => (∃ v, e = .returned v) ∧ ∃ cs' ps', SI base w A 20 c cs' ps' w' ∧ ps'.Perm qs ∧ ps'.Pairwise Pl.leP := by
 have H0 := hide h0
 have HSZ := hide hsz
 clear h0 hsz
 go_enter Tryd.func90, Tryd.ntmps90
 go_wp2_with fail
 go_loopg [7, 8] 1 (fun g s7 s8 wx => (g = 1 ∧ s7 = .int .i64 0 ∧ s8 = .int .i64 20 ∧ wx = w) ∨ (g = 0 ∧ s7 = .int .i64 20 ∧ s8 = .int .i64 40 ∧ ∃ cs' ps', SI base w A 20 c cs' ps' wx ∧ ps'.Perm qs ∧ ps'.Pairwise Pl.leP))
 case atStart => exact .inl ⟨rfl, rfl, rfl, rfl⟩
 case round =>
  obtain ⟨go, rfl⟩ : ∃ go, go = gk := ⟨_, rfl⟩
  rcases hrel with ⟨hg, rfl, rfl, rfl⟩ | ⟨hg, rfl, rfl, hR⟩
  ·have HG := hide hg
   clear hg
   go_wp2_with fail
   refine (isort_any base A 20 c cs qs _ H0.out HSZ.out (by omega)).mono ?_
   rintro e w1 ⟨⟨v, rfl⟩, cs', ps', hS, hP, hW⟩
   have HR := hide (show ∃ cs' ps', SI base wr A 20 c cs' ps' w1 ∧ ps'.Perm qs ∧ ps'.Pairwise Pl.leP from ⟨cs', ps', hS, hP, hW⟩)
   clear hS hP hW
   go_wp2_with fail
   go_roundg 0
   case measure => have := HG.out; omega
   case rel => exact .inr ⟨rfl, rfl, rfl, HR.out⟩
  ·have HR := hide hR
   clear hR hg
   go_wp2_with fail
   refine (isort_none A 20 c _ (by omega)).mono ?_
   rintro e w1 ⟨⟨v, rfl⟩, rfl⟩
   go_wp2_with fail
   go_loopg [6, 7, 8] 0 (fun g s6 s7 s8 wx => s6 = .int .i64 20 ∧ wx = w1)
   case atStart => exact ⟨rfl, rfl⟩
   case round =>
    obtain ⟨rfl, rfl⟩ := hrel
    go_wp2
    exact bodyPost_end (by simp [results, Tryd.results90, go_sem]; rfl) rfl ⟨⟨_, rfl⟩, HR.out⟩
set_option maxRecDepth 100000 in
set_option maxHeartbeats 2000000 in
theorem sort_any (base : Nat) (A : Option Addr) (n c : Nat) (cs : List Value) (qs : List Pl.Pc) (w : World) (h0 : SI base w A n c cs qs w) (hsz : ∀ p, p ∈ qs → PcSz p) (hn : n ≤ 20) :
 Calls Tryd.prog 80 #[.slice A n c, .func (.func 81) #[] #[]] w fun e w' => (∃ v, e = .returned v) ∧ ∃ cs' ps', SI base w A n c cs' ps' w' ∧ ps'.Perm qs ∧ ps'.Pairwise Pl.leP := by
 have H0 := hide h0
 have HSZ := hide hsz
 clear h0 hsz
 go_enter Tryd.func80, Tryd.ntmps80
 go_wp2_with fail
 have hst : Calls Tryd.prog 90 #[.slice A n c, .int .i64 (n : Int), .func (.func 81) #[] #[]] w fun e w' => (∃ v, e = .returned v) ∧ ∃ cs' ps', SI base w A n c cs' ps' w' ∧ ps'.Perm qs ∧ ps'.Pairwise Pl.leP := by
  rcases Nat.lt_or_ge n 20 with h | h
  ·exact stable_any base A n c cs qs _ H0.out HSZ.out h
  ·obtain rfl : n = 20 := by omega
   exact stable_20 base A c cs qs _ H0.out HSZ.out
 refine hst.mono ?_
 clear hst
 rintro e w1 ⟨⟨v, rfl⟩, cs', ps', hS, hP, hW⟩
 have HR := hide (show ∃ cs' ps', SI base w A n c cs' ps' w1 ∧ ps'.Perm qs ∧ ps'.Pairwise Pl.leP from ⟨cs', ps', hS, hP, hW⟩)
 clear hS hP hW
 go_wp2
 exact bodyPost_end (by simp [results, Tryd.results80, go_sem]; rfl) rfl ⟨⟨_, rfl⟩, HR.out⟩
end Go.Proofs.YtcaoblilkgajoaaDoor
end
