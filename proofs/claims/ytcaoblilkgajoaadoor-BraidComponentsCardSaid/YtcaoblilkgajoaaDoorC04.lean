/-
 The texts Wv, Ww, Rl, Xj, Sld, Slr, Knk, Kval, Xp, Xr, Xg, Ya, Xy, Yf, Byp, Unc, Unk, Pkv, Str, Ua, Vb in one.
-/
import Derived.Test.YtcaoblilkgajoaaDoorC03
import Derived.Deep.DeepCutAuto
import Derived.RegionTactic
import Derived.Deep.RegionWith
import Derived.Deep.CutBlock
import Derived.Deep.RegionHeld3
import Derived.Deep.DrawnRows
import Derived.StillTailTactics
import Derived.Test.YtcaoblilkgajoaaDoorC02
import Derived.Test.YtcaoblilkgajoaaDoorC01
import Derived.Test.YtcaoblilkgajoaaDoorShelf
import Derived.Test.YtcaoblilkgajoaaDoorC00
import Derived.Deep.AppendLies
import Derived.Laws.Slices
set_option linter.unusedVariables false
set_option linter.unusedSimpArgs false
section
namespace Go.Proofs.YtcaoblilkgajoaaDoor
open Go Go.RowKit
def Gl (ps : List Int) (k i : Nat) : List Nat := (List.range k).filter (fun c => decide (Pl.pv ps c = (i : Int)))
theorem Gl_succ (ps : List Int) (k i : Nat) : Gl ps (k + 1) i = Gl ps k i ++ if Pl.pv ps k = (i : Int) then [k] else [] := by
 unfold Gl
 rw [List.range_succ, List.filter_append]
 by_cases h : Pl.pv ps k = (i : Int) <;> simp [List.filter_cons, h]
theorem Gl_len (ps : List Int) (k i : Nat) : (Gl ps k i).length ≤ k := by
 unfold Gl
 have := List.length_filter_le (fun c => decide (Pl.pv ps c = (i : Int))) (List.range k)
 simpa using this
theorem mem_Gl {ps : List Int} {k i c : Nat} : c ∈ Gl ps k i ↔ c < k ∧ Pl.pv ps c = (i : Int) := by unfold Gl; simp
def gv (vs : List Value) (i : Nat) : Value := vs.getD i (.slice none 0 0)
structure Grp (w : World) (g P : Nat) (ps : List Int) (k : Nat) (vs : List Value) (W : World) : Prop where
 len : vs.length = P
 row : Row W g 22 vs
 own : ∀ i, i < P → W.ownsRow (g + 1) 3 1 (gv vs i) (Gl ps k i).length ((Gl ps k i).map (fun k : Nat => Value.int .i64 k))
 ne : ∀ i j, i < P → j < P → i ≠ j → ∀ b, (gv vs i).ownBlock = some b → (gv vs j).ownBlock ≠ some b
 bel : Below w.heap.size w W
 lo : w.heap.size ≤ g
theorem Grp.below {w : World} {g P : Nat} {ps : List Int} {k : Nat} {vs : List Value} {W W' : World} (h : Grp w g P ps k vs W) (hb : Below W.heap.size W W') : Grp w g P ps k vs W' :=
 ⟨h.len, h.row.below hb, fun i hi => own_keep (h.own i hi) hb (Nat.le_refl _), h.ne, h.bel.trans (hb.mono h.bel.size), h.lo⟩
theorem gv_set {vs : List Value} {q : Nat} (hq : q < vs.length) (v : Value) (i : Nat) : gv (vs.set q v) i = if i = q then v else gv vs i := by
 unfold gv
 rw [List.getD_eq_getElem?_getD, List.getD_eq_getElem?_getD, List.getElem?_set]
 by_cases h : q = i
 ·subst h; simp [hq]
 ·rw [if_neg h, if_neg (fun e => h e.symm)]
theorem Grp.put {w : World} {g P : Nat} {ps : List Int} {k q : Nat} {vs : List Value} {W W2 : World} {v' : Value} {g' : Nat} (h : Grp w g P ps k vs W) (hq : q < P) (hp : Pl.pv ps k = (q : Int))
 (own : W2.ownsRow (g + 1) 3 1 v' ((Gl ps k q).length + 1) ((Gl ps k q).map (fun k : Nat => Value.int .i64 k) ++ [.int .i64 (k : Nat)])) (gr : W.grownBy W2 (gv vs q).ownBlock) (hv : v'.ownBlock = some g') (hat : (gv vs q).ownBlock = some g' ∨ g' = W.heap.size) :
 Grp w g P ps (k + 1) (vs.set q v') (W2.setCell ⟨g, q, none⟩ v') := by
 have hql : q < vs.length := by rw [h.len]; exact hq
 have hlt := fun i hi => (h.own i hi).lt
 refine ⟨by rw [List.length_set, h.len], (h.row.grown gr ?_).set q v', fun i hi => ?_, fun i j hi hj hij b e1 e2 => ?_, (h.bel.grown gr h.bel.size (fun b e => by have := (hlt q hq b e).1; have := h.lo; omega)).setCell h.lo _, h.lo⟩
 ·intro e
  have := (hlt q hq g e.symm).1
  omega
 ·rw [gv_set hql, Gl_succ]
  by_cases e : i = q
  ·subst e
   rw [if_pos rfl, if_pos hp]
   refine ownsRow_setCell_below ?_ (by show g < g + 1; omega) _
   simpa using own
  ·rw [if_neg e, if_neg (by omega), List.append_nil]
   refine ownsRow_setCell_below ((h.own i hi).kept gr ?_) (by show g < g + 1; omega) _
   cases hm : (gv vs i).ownBlock with
   | none => exact .inl rfl
   | some b => exact .inr (fun e' => h.ne i q hi hq e b hm e'.symm)
 ·rw [gv_set hql] at e1 e2
  by_cases ei : i = q
  ·rw [if_pos ei, hv] at e1
   injection e1 with e1
   rw [if_neg (by omega)] at e2
   rcases hat with e | e
   ·exact h.ne q j hq hj (by omega) g' e (by rw [e2, e1])
   ·have := (hlt j hj b e2).2
    omega
  ·rw [if_neg ei] at e1
   by_cases ej : j = q
   ·rw [if_pos ej, hv] at e2
    injection e2 with e2
    rcases hat with e | e
    ·exact h.ne i q hi hq ei g' (by rw [e1, e2]) e
    ·have := (hlt i hi b e1).2
     omega
   ·rw [if_neg ej] at e2
    exact h.ne i j hi hj hij b e1 e2
def GraphPost (d : Pl.Dg) (w : World) (e : Ending) (w' : World) : Prop :=
 ∃ (A : Option Addr) (c P : Nat) (ps : List Int) (vs : List Value), e = .returned (.slice A P c) ∧ P ≤ d.n ∧ Pl.LB d ps P ∧ (∀ a, a < d.n → 0 ≤ Pl.pv ps a) ∧ RowT w' 22 A P vs ∧ Vs w' vs ((List.range P).map (Gl ps d.n)) ∧ Below w.heap.size w w' ∧ Far w.heap.size vs
theorem run_rows (n : Nat) (hn : n ≤ 100000) (w : World) : (Instr.makeSlice 52 (.int .i64 (n : Int)) (.int .i64 (n : Int))).run Tryd.prog w = .ok (.slice (some ⟨w.heap.size, 0, none⟩) n n) (w.alloc (.cells (Array.replicate n (Value.slice none 0 0)) 22)) := by
 obtain ⟨i0, hi, hz0, hz1, hz2⟩ := info_parts rowInfo
 have := run_make (P := Tryd.prog) w 52 22 i0 (.slice none 0 0) Tryd.underlying52 hi hz0 .i64 .i64 n n (by omega) (Int.le_refl _) (by rw [hz2]; omega) (by omega)
 rw [hz1, Nat.mul_one, Int.toNat_natCast, show madeCells (Value.cells (.slice none 0 0)) n = (List.replicate n (.slice none 0 0)).toArray from made_rep _ _] at this
 exact this
theorem Row.gv {W : World} {g : Nat} {t : TypeId} {vs : List Value} (h : Row W g t vs) {q : Nat} (hq : q < vs.length) : W.cell? ⟨g, q, none⟩ = some (gv vs q) := by
 rw [h.cell hq]
 unfold Go.Proofs.YtcaoblilkgajoaaDoor.gv
 rw [List.getD_eq_getElem?_getD, List.getElem?_eq_getElem hq]; rfl
theorem range_get {P i : Nat} {l : List Nat} {f : Nat → List Nat} (e : ((List.range P).map f)[i]? = some l) : i < P ∧ l = f i := by
 rw [List.getElem?_map] at e
 by_cases h : i < P
 ·rw [List.getElem?_range h] at e
  injection e with e
  exact ⟨h, e.symm⟩
 ·rw [List.getElem?_eq_none (by simpa using Nat.le_of_not_lt h)] at e
  cases e
theorem Grp.vs {w : World} {g P : Nat} {ps : List Int} {k : Nat} {vs : List Value} {W : World} (h : Grp w g P ps k vs W) : Vs W vs ((List.range P).map (Gl ps k)) := by
 refine ⟨by simp [h.len], fun i l e => ?_⟩
 obtain ⟨hi, rfl⟩ := range_get e
 have ho := h.own i hi
 obtain ⟨A, c, e2⟩ := owns_slice ho
 refine ⟨Go.Proofs.YtcaoblilkgajoaaDoor.gv vs i, ?_, A, c, e2, by rw [e2] at ho; exact own_rowT ho⟩
 unfold Go.Proofs.YtcaoblilkgajoaaDoor.gv
 rw [List.getD_eq_getElem?_getD, List.getElem?_eq_getElem (by rw [h.len]; exact hi)]; rfl
theorem Grp.far {w : World} {g P : Nat} {ps : List Int} {k : Nat} {vs : List Value} {W : World} (h : Grp w g P ps k vs W) : Far w.heap.size vs := fun v hv b hb => by
 obtain ⟨i, hi, e⟩ := List.mem_iff_getElem.1 hv
 have h1 : Go.Proofs.YtcaoblilkgajoaaDoor.gv vs i = v := by unfold Go.Proofs.YtcaoblilkgajoaaDoor.gv; rw [List.getD_eq_getElem?_getD, List.getElem?_eq_getElem hi]; exact e
 have h2 := (h.own i (by rw [← h.len]; exact hi)).lt b (by rw [h1]; exact hb)
 have := h.lo
 omega
set_option maxRecDepth 100000 in
set_option maxHeartbeats 2000000 in
theorem graph_any (d : Pl.Dg) (hd : Pl.Valid d) (A B : Option Addr) (cp cq m : Nat) (w : World) (hm : m = 4 * d.n) (hg : DgAt w A B d) :
 Calls Tryd.prog 78 #[.agg #[.slice A d.n cp, .slice B m cq, .int .i64 d.lp]] w (GraphPost d w) := by
 have hn := hd.wf.few
 have HM := hide hm
 have HG := hide hg
 have B0 := hide (show Below w.heap.size w (w.alloc (.cells #[.slice A d.n cp, .slice B m cq, .int .i64 d.lp] 28)) from (Below.refl _ _).alloc (Nat.le_refl _) _)
 have X0 := hide (show Row (w.alloc (.cells #[.slice A d.n cp, .slice B m cq, .int .i64 d.lp] 28)) w.heap.size 28 [.slice A d.n cp, .slice B m cq, .int .i64 d.lp] from Row.new w _ [_, _, _])
 clear hg
 subst hm
 go_enter Tryd.func78, Tryd.ntmps78
 go_wp2_with fail
 refine (valid_yes d hd A B cp cq _ _ rfl (HG.out.keep B0.out)).mono ?_
 rintro e w1 ⟨rfl, hb1⟩
 have B1 := hide (B0.out.trans (hb1.mono B0.out.size))
 have X1 := hide (X0.out.below hb1)
 obtain ⟨f0, f1, f2, f3⟩ := box3 X1.out
 clear hb1
 go_wp2_with fail
 refine (label_any d hd.wf A B cp cq _ _ (HG.out.keep B1.out)).mono ?_
 rintro e w2 ⟨ps, P, gp, rfl, hlb, hall, hgp, hir, hb2⟩
 have HLB := hide hlb
 have HALL := hide hall
 have hPn := hlb.le
 have HIR := hide hir
 have B2 := hide (B1.out.trans (hb2.mono B1.out.size))
 have hgps := hir.lt
 have hps : ps.length = d.n := hlb.len
 have HPS := hide hps
 clear hlb hall hir hb2 f0 f1 f2 f3 hps
 have hmk := fun W : World => run_rows P (by omega) W
 have H0 := hide (show Grp w w2.heap.size P ps 0 (List.replicate P (.slice none 0 0)) (w2.alloc (.cells (Array.replicate P (Value.slice none 0 0)) 22)) from by
  have hgv : ∀ i, gv (List.replicate P (.slice none 0 0)) i = .slice none 0 0 := fun i => by
   unfold Go.Proofs.YtcaoblilkgajoaaDoor.gv
   rw [List.getD_eq_getElem?_getD, List.getElem?_replicate]
   split <;> rfl
  refine ⟨by simp, ?_, fun i hi => ?_, fun i j hi hj hij b e => ?_, B2.out.alloc B2.out.size _, B2.out.size⟩
  ·have := Row.new w2 22 (List.replicate P (.slice none 0 0))
   simpa using this
  ·rw [hgv]; exact World.ownsRow_nil _ _ _ _
  ·rw [hgv] at e; simp [Value.ownBlock] at e)
 have HI0 := hide (show IRow (w2.alloc (.cells (Array.replicate P (Value.slice none 0 0)) 22)) gp ps from Row.alloc HIR.out _)
 go_wp2
 clear hmk
 obtain ⟨gg, hgg⟩ : ∃ gg, gg = w2.heap.size := ⟨_, rfl⟩
 rw [← hgg] at H0 hgps ⊢
 have HGG := hide hgg
 go_loopg [20] d.n (fun g i wx => ∃ (k : Nat) (vs : List Value), k + g = d.n ∧ i = .int .i64 k ∧ Grp w gg P ps k vs wx ∧ IRow wx gp ps)
 case atStart => exact ⟨0, _, by omega, rfl, by have := H0.out; rw [hgg] at this ⊢; exact this, HI0.out⟩
 case round =>
  clear H0 HI0 HIR hgg HGG
  obtain ⟨k, vs, hkg, rfl, hgr, hir⟩ := hrel
  have HKG := hide hkg
  have hkn : k ≤ d.n := by omega
  have HGR := hide hgr
  have HIR := hide hir
  have hsz := hgr.row.lt
  clear hkg hgr hir
  by_cases hlt : k < d.n
  ·have c1 := HIR.out.cell (i := k) (by rw [HPS.out]; exact hlt)
   have h0 := HALL.out k hlt
   have h1 := (HLB.out.lo k hlt).2
   obtain ⟨q, hq⟩ := Int.eq_ofNat_of_zero_le h0
   rw [hq] at c1 h1
   have HQ := hide hq
   clear hq h0
   have hqP : q < P := by omega
   have hql : q < vs.length := by rw [HGR.out.len]; exact hqP
   have c2 := HGR.out.row.gv hql
   have fr2 := HGR.out.row.free q
   obtain ⟨vq, hvq⟩ : ∃ v, v = gv vs q := ⟨_, rfl⟩
   rw [← hvq] at c2
   have HVQ := hide hvq
   clear hvq
   have iq : (0 : Int) ≤ (q : Int) := by omega
   have jq : (q : Int) < (P : Int) := by omega
   have hgl := Gl_len ps k q
   obtain ⟨i0, hi0, hz0, hz1, hz2⟩ := info_parts intInfo
   have OQ := hide (show wr.ownsRow (gg + 1) 3 1 vq (Gl ps k q).length ((Gl ps k q).map (fun k : Nat => Value.int .i64 k)) by rw [HVQ.out]; exact HGR.out.own q hqP)
   go_wp2_with (at_builtin; refine wpList_append_lies _ (by rfl) _ _ 22 (by rfl) (gg + 1) 3 i0 (.int .i64 0) 1 8 Tryd.underlying22 hi0 hz0 hz1 hz2 rfl (by omega) vq (Gl ps k q).length _ (by rfl) (OQ.out.alloc _) ⟨wr.heap.size, 0, none⟩ 1 1 [.int .i64 (k : Nat)] (by rfl) (by rfl) (one_news wr (.int .i64 (k : Nat))) (by simp [Value.oneCell']) (by omega) (by unfold maxLen; omega) (by omega) (by simp; omega) (wr.heap.size + 1) (by simp) ?_; intro g3 c3 w3 own3 grow3 at3 lt3; have hrow3 := Row.grown (Row.alloc HGR.out.row (.cells #[.int .i64 (k : Nat)] 3)) grow3 (by intro e; have := (OQ.out.lt gg e.symm).1; omega); have cq3 := hrow3.gv hql; have fq3 := hrow3.free q; have OWN3 := hide own3; have GR3 := hide grow3; have AT3 := hide at3; have HROW3 := hide hrow3; clear own3 grow3 at3 hrow3)
   go_roundg (gk - 1)
   case measure => have := HKG.out; omega
   case rel =>
    refine ⟨k + 1, vs.set q (.slice (some ⟨g3, 0, none⟩) ((Gl ps k q).length + 1) c3), by have := HKG.out; omega, by go_num, ?_, ?_⟩
    ·exact Grp.put (HGR.out.below ((Below.refl _ _).alloc (Nat.le_refl _) (.cells #[.int .i64 (k : Nat)] 3))) hqP HQ.out OWN3.out (by rw [← HVQ.out]; exact GR3.out) rfl (by rw [← HVQ.out]; simpa using AT3.out)
    ·refine Row.other (Row.grown (Row.alloc HIR.out _) GR3.out ?_) (by show gp ≠ gg; omega) _
     intro e
     have := (OQ.out.lt gp e.symm).1
     omega
  ·go_wp2
   go_ret
   obtain rfl : k = d.n := by omega
   refine ⟨_, _, P, ps, vs, rfl, hPn, HLB.out, HALL.out, ?_, HGR.out.vs, HGR.out.bel, HGR.out.far⟩
   refine ⟨HGR.out.len, fun _ => ⟨gg, 0, vs.toArray, (0, 0), rfl, HGR.out.row, fun j u hu => ?_⟩⟩
   rw [Nat.zero_add]
   simpa using hu
end Go.Proofs.YtcaoblilkgajoaaDoor
end
section
namespace Go.Proofs.YtcaoblilkgajoaaDoor
open Go Go.RowKit
theorem nats_set (F : List Nat) (y v : Nat) : nats (F.set y v) = (nats F).set y (v : Int) := by unfold nats; rw [List.map_set]
end Go.Proofs.YtcaoblilkgajoaaDoor
end
section
namespace Go.Proofs.YtcaoblilkgajoaaDoor
open Go Go.RowKit
theorem own_row_ne {W : World} {base b n : Nat} {t : TypeId} {v : Value} {xs vs : List Value} (h : W.ownsRow base 3 1 v n xs) (hr : Row W b t vs) (ht : 3 ≠ t) : some b ≠ v.ownBlock := by
 intro e
 obtain ⟨cs, fr, h3⟩ := ownsRow_block h b e.symm
 rw [hr] at h3
 injection h3 with h3
 injection h3 with _ h4
 exact ht h4.symm
section
variable {base : Nat} {w W W' W2 : World} {vS vM v' : Value} {n q : Nat} {lp : Int} {mv : List Value} {ss : List Int} {l : List Nat}
end
end Go.Proofs.YtcaoblilkgajoaaDoor
end
section
namespace Go.Proofs.YtcaoblilkgajoaaDoor
open Go Go.RowKit
attribute [local go_sem ↓] Go.wp_at_zero Go.wp_at_succ
def sb (d : Pl.Dg) (h k : Nat) : Nat := Pl.tn (eo d (th d h k)) 2
theorem nats_len (F : List Nat) : (nats F).length = F.length := by unfold nats; simp
section
variable {w W W' : World} {ge : Nat} {dv mv ev : List Value}
end
section
variable {w W W2 : World} {ge gt gu gr g1 c1 g2 c2 base m n : Nat} {dv mv ev : List Value} {tl : List Int} {ou : List Bool} {ss : List Value} {lp : Int} {L L' : List Nat}
end
def tk (m k : Nat) : List Nat := (List.range m).map (fun j => if j < k then j else 0)
end Go.Proofs.YtcaoblilkgajoaaDoor
end
section
namespace Go.Proofs.YtcaoblilkgajoaaDoor.Pl
variable {N : Nat} {S : Nat → Prop} {r a : Nat → Nat}
def cj (t f : Nat → Nat) (x : Nat) : Nat := t (f (t x))
section
variable {t : Nat → Nat} {h0 h1 h2 p0 p1 p2 u0 u1 u2 v0 v1 v2 : Nat}
end
end Go.Proofs.YtcaoblilkgajoaaDoor.Pl
end
section
namespace Go.Proofs.YtcaoblilkgajoaaDoor.Pl
theorem set_getD (l : List Nat) (a b x : Nat) (ha : a < l.length) : (l.set a b).getD x 0 = if x = a then b else l.getD x 0 := by
 rw [List.getD_eq_getElem?_getD, List.getElem?_set, List.getD_eq_getElem?_getD]
 by_cases h : a = x
 ·subst h; simp [ha]
 ·rw [if_neg h, if_neg (Ne.symm h)]
theorem jn_getD (l : List Nat) (a b x : Nat) (ha : a < l.length) (hb : b < l.length) : ((l.set a b).set b a).getD x 0 = if x = b then a else if x = a then b else l.getD x 0 := by
 rw [set_getD _ _ _ _ (by simpa using hb), set_getD _ _ _ _ ha]
end Go.Proofs.YtcaoblilkgajoaaDoor.Pl
end
section
namespace Go.Proofs.YtcaoblilkgajoaaDoor.Pl
def ex (n : Nat) (a : Nat → Nat) (x : Nat) : Nat := if x < 4 * n then a x else x
end Go.Proofs.YtcaoblilkgajoaaDoor.Pl
end
section
namespace Go.Proofs.YtcaoblilkgajoaaDoor.Pl
theorem wf_by {d' : Dg} (few : d'.n ≤ 64) (len : d'.mt.length = 4 * d'.n) (lp : d'.lp ≤ 64) (sign : ∀ c, c < d'.n → d'.s c = 1 ∨ d'.s c = -1)
 (h : ∀ z, z < 4 * d'.n → d'.m z < 4 * d'.n ∧ d'.m (d'.m z) = z ∧ Pl.out d' z ≠ Pl.out d' (d'.m z)) : Wf d' :=
 ⟨few, len, lp, sign, fun z hz => (h z hz).1, fun z hz e => (h z hz).2.2 (by rw [e]), fun z hz => (h z hz).2.1, fun z hz => (h z hz).2.2⟩
end Go.Proofs.YtcaoblilkgajoaaDoor.Pl
end
section
namespace Go.Proofs.YtcaoblilkgajoaaDoor
open Go Go.RowKit
attribute [local go_sem ↓] Go.wp_at_zero Go.wp_at_succ
section
variable {w W W' W2 : World} {gd gl : Nat} {dv : List Value} {v v' : Value} {ms : List Mv} {m : Mv}
theorem own_below {base : Nat} {e : TypeId} {size n : Nat} {xs : List Value} (h : W.ownsRow base e size v n xs) (hb : Below W.heap.size W W') : W'.ownsRow base e size v n xs := by
 refine ⟨h.1, ?_⟩
 rcases h.2 with hz | ⟨g, cap, cur, r1, r2, r3, r4⟩
 ·exact .inl hz
 ·exact .inr ⟨g, cap, cur, r1, r2, (hb.block g (lt_of_heap r3)).trans r3, r4⟩
end
end Go.Proofs.YtcaoblilkgajoaaDoor
end
section
namespace Go.Proofs.YtcaoblilkgajoaaDoor
open Go Go.RowKit
attribute [local go_sem ↓] Go.wp_at_zero Go.wp_at_succ
section
variable {w W W' W2 : World} {T : TypeId} {gd gl : Nat} {dv : List Value} {v v' : Value} {ms : List Mv} {m : Mv}
end
def one (c : Int) (m : Mv) : List Mv := if c = 0 then [m] else []
end Go.Proofs.YtcaoblilkgajoaaDoor
end
section
namespace Go.Proofs.YtcaoblilkgajoaaDoor
open Go Go.RowKit
def two : Pl.Dg := ⟨[-1, 1], [6, 5, 4, 7, 2, 1, 0, 3], 0⟩
end Go.Proofs.YtcaoblilkgajoaaDoor
end
section
namespace Go.Proofs.YtcaoblilkgajoaaDoor
open Go Go.RowKit
attribute [local go_sem ↓] Go.wp_at_zero Go.wp_at_succ
structure CB (W : World) (g1 g2 : Nat) (n : Nat) (most : Int) : Prop where
 n : Row W g1 3 [.int .i64 (n : Int)]
 m : Row W g2 3 [.int .i64 most]
end Go.Proofs.YtcaoblilkgajoaaDoor
end
section
namespace Go.Proofs.YtcaoblilkgajoaaDoor
open Go Go.RowKit
attribute [local go_sem ↓] Go.wp_at_zero Go.wp_at_succ
section
variable {w W W' W2 : World} {vR vS : Value} {rs ss : List Mv} {m : Mv} {g n c : Nat}
theorem apart {v u : Value} (ne : ∀ g, v.ownBlock = some g → u.ownBlock = some g → False) : u.ownBlock = none ∨ u.ownBlock ≠ v.ownBlock := by
 cases hu : u.ownBlock with
 | none => exact .inl rfl
 | some g => exact .inr (fun e => ne g e.symm hu)
end
end Go.Proofs.YtcaoblilkgajoaaDoor
end
section
namespace Go.Proofs.YtcaoblilkgajoaaDoor
open Go Go.RowKit
attribute [local go_sem ↓] Go.wp_at_zero Go.wp_at_succ
theorem row3 {W : World} {g : Nat} {t : TypeId} {vs : List Value} (h : Row W g t vs) (l : vs.length = 3) (y0 y1 y2 : Value) :
 Row (((W.setCell ⟨g, 0, none⟩ y0).setCell ⟨g, 1, none⟩ y1).setCell ⟨g, 2, none⟩ y2) g t [y0, y1, y2] := by
 obtain ⟨a, b, c, rfl⟩ : ∃ a b c, vs = [a, b, c] := by
  match vs, l with
  | [a, b, c], _ => exact ⟨a, b, c, rfl⟩
 exact ((h.set 0 y0).set 1 y1).set 2 y2
end Go.Proofs.YtcaoblilkgajoaaDoor
end
section
namespace Go.Proofs.YtcaoblilkgajoaaDoor.Pl
variable {N : Nat} {S : Nat → Prop} {r a : Nat → Nat}
def cut2 (a : Nat → Nat) (u v : Nat) : Nat → Nat := tr (tr a u (a u)) v (a v)
def byp (a : Nat → Nat) (u v : Nat) : Nat → Nat := tr (cut2 a u v) (a u) (a v)
end Go.Proofs.YtcaoblilkgajoaaDoor.Pl
end
section
namespace Go.Proofs.YtcaoblilkgajoaaDoor.Pl
variable {d : Dg}
theorem st_bij (hd : Wf d) : Bij (4 * d.n) (dart d) (st d) :=
 ⟨fun _ h => h, fun x hx => tn_lt (hd.lt x hx), fun x y hx hy e => hd.bij.inj x y hx hy (tn_inj e)⟩
end Go.Proofs.YtcaoblilkgajoaaDoor.Pl
end
section
namespace Go.Proofs.YtcaoblilkgajoaaDoor.Pl
variable {d : Dg}
def Wy (d : Dg) (b : Nat → Nat) : Prop := ∀ z, z < 4 * d.n → b z ≠ z → out d (b z) = !out d z
def cls (b : Nat → Nat) (u v : Nat) : Nat → Nat := if b u = v then b else byp b u v
section
variable {h u : Nat}
def lA (d : Dg) (h u : Nat) : Nat → Nat := cls d.m (tn h 2) (tn u 2)
def lB (d : Dg) (h u : Nat) : Nat → Nat := cls (lA d h u) (tn h 3) (tn u 1)
structure LA (d : Dg) (h u : Nat) (b : Nat → Nat) : Prop where
 hm : Hm (4 * d.n) (dart d) rot b
 fl : Flat (dart d) rot b
 wy : Wy d b
 e0 : b h = u
 e1 : b (tn h 1) = tn u 3
 e2 : b u = h
 e3 : b (tn u 3) = tn h 1
 c : (b (tn h 2) = tn u 2 ∧ b (tn u 2) = tn h 2) ∨ (b (tn h 2) = tn h 2 ∧ b (tn u 2) = tn u 2)
 nf : ∀ z, z < 4 * d.n → z ≠ tn h 2 → z ≠ tn u 2 → b z ≠ z
end
end Go.Proofs.YtcaoblilkgajoaaDoor.Pl
end
section
namespace Go.Proofs.YtcaoblilkgajoaaDoor.Pl
section
variable {M : Nat} {o : Nat → Bool} {l : List Nat} {a : Nat → Nat}
end
section
variable {d d' : Dg} {f g : Nat} {fx fy : Bool}
variable {b : Nat → Nat}
theorem stp {r b : Nat → Nat} {x y z : Nat} (e : b x = y) (h : r y = z) : phi r b x = z := by unfold phi; rw [e, h]
end
end Go.Proofs.YtcaoblilkgajoaaDoor.Pl
end
section
namespace Go.Proofs.YtcaoblilkgajoaaDoor.Pl
section
variable {n : Nat} {b : Nat → Nat} {h u : Nat}
end
section
variable {N : Nat} {S : Nat → Prop} {r a : Nat → Nat}
end
section
variable {n : Nat} {b : Nat → Nat} {h u : Nat}
end
def Str (d : Dg) (s : Nat) : Prop := Cls (fun h => h < 4 * d.n ∧ out d h = true) (Orb (st d)) s
section
variable {d : Dg}
end
end Go.Proofs.YtcaoblilkgajoaaDoor.Pl
end
section
namespace Go.Proofs.YtcaoblilkgajoaaDoor
open Go Go.RowKit
attribute [local go_sem ↓] Go.wp_at_zero Go.wp_at_succ
theorem elemI : Tryd.prog.underlying 22 = some (.slice (Tryd.prog.elem 22)) := by kernel_rfl
theorem sizeI (W : World) : (sizeOf (Tryd.prog.elem 22)).run Tryd.prog W = .ok 1 W := by kernel_rfl
theorem cut_hi {w : World} {A : Option Addr} {n c : Nat} {xs : List Int} (h : IntsAt w A n xs) {k : Nat} (hk : k ≤ n) (hc : n ≤ c) :
 ∃ A1 : Option Addr, IntsAt w A1 (n - k) (xs.drop k) ∧ ∀ W : World, (Instr.slice 22 (.slice A n c) (some (.int .i64 (k : Int))) none none).run Tryd.prog W = .ok (.slice A1 (n - k) (c - k)) W := by
 have hl := h.len
 refine ⟨if c = k then A else A.map (·.add (k * 1)), ⟨by simp; omega, fun hp => ?_⟩, fun W => ?_⟩
 ·obtain ⟨b, o, rfl, hx⟩ := h.2 (by omega)
  rw [if_neg (by omega)]
  refine ⟨b, o + k, by simp [Addr.add_lit], fun j u hu => ?_⟩
  rw [List.map_drop, List.getElem?_drop] at hu
  rw [Nat.add_assoc]
  exact hx _ u hu
 ·rw [run_slice_l W 22 A n c elemI .i64 (k : Int) (by omega) (by omega), sizeI]
  rfl
section
variable {P : Program} (w : World)
end
end Go.Proofs.YtcaoblilkgajoaaDoor
end
section
namespace Go.Proofs.YtcaoblilkgajoaaDoor
open Go Go.RowKit
attribute [local go_sem ↓] Go.wp_at_zero Go.wp_at_succ
structure NK (w : World) (dv : List Value) (vO vC : Value) (ns : List Int) (o : List Nat) (cs : List Int) (W : World) : Prop where
 d : Row W w.heap.size 28 dv
 nu : IRow W (w.heap.size + 1) ns
 o : W.ownsRow (w.heap.size + 2) 3 1 vO o.length (o.map (fun k : Nat => Value.int .i64 k))
 c : W.ownsRow (w.heap.size + 2) 3 1 vC cs.length (cs.map (.int .i64))
 ne : ∀ k, vO.ownBlock = some k → vC.ownBlock ≠ some k
 bel : Below w.heap.size w W
section
variable {w W W2 : World} {dv : List Value} {vO vC : Value} {ns : List Int} {o : List Nat} {cs : List Int}
theorem NK.big (h : NK w dv vO vC ns o cs W) : w.heap.size + 2 ≤ W.heap.size := by have := Row.lt h.nu; omega
theorem NK.below (h : NK w dv vO vC ns o cs W) (hb : Below W.heap.size W W2) : NK w dv vO vC ns o cs W2 :=
 ⟨h.d.below hb, Row.below h.nu hb, own_keep h.o hb (Nat.le_refl _), own_keep h.c hb (Nat.le_refl _), h.ne, h.bel.trans (hb.mono (by have := h.big; omega))⟩
theorem NK.alloc (h : NK w dv vO vC ns o cs W) (b : Obj) : NK w dv vO vC ns o cs (W.alloc b) := h.below ((Below.refl _ _).alloc (Nat.le_refl _) b)
theorem NK.setN (h : NK w dv vO vC ns o cs W) (i : Nat) (v : Int) : NK w dv vO vC (ns.set i v) o cs (W.setCell ⟨w.heap.size + 1, i, none⟩ (.int .i64 v)) :=
 ⟨h.d.other (by show _ ≠ w.heap.size + 1; omega) _, h.nu.set i v, ownsRow_setCell_below h.o (by show w.heap.size + 1 < w.heap.size + 2; omega) _, ownsRow_setCell_below h.c (by show w.heap.size + 1 < w.heap.size + 2; omega) _, h.ne, h.bel.setCell (by show _ ≤ w.heap.size + 1; omega) _⟩
theorem own_hat {g : Nat} {v : Value} {W : World} {base n : Nat} {xs : List Value} {t : TypeId} (h : W.ownsRow base t 1 v n xs) (hat : v.ownBlock = some g ∨ g = W.heap.size) {u : Value} {m : Nat} {ys : List Value} (hu : W.ownsRow base t 1 u m ys) (ne : ∀ k, v.ownBlock = some k → u.ownBlock ≠ some k) : u.ownBlock ≠ some g := by
 rcases hat with e | e
 ·exact ne g e
 ·intro e2
  have := (hu.lt g e2).2
  omega
theorem NK.appO (h : NK w dv vO vC ns o cs W) {g c n : Nat} {o' : List Nat} (own : W2.ownsRow (w.heap.size + 2) 3 1 (.slice (some ⟨g, 0, none⟩) n c) n (o'.map (fun k : Nat => Value.int .i64 k))) (gr : W.grownBy W2 vO.ownBlock) (hat : vO.ownBlock = some g ∨ g = W.heap.size) : NK w dv (.slice (some ⟨g, 0, none⟩) n c) vC ns o' cs W2 := by
 have hn : n = o'.length := by have := own.1; simpa using this.symm
 have hne := own_hat h.o hat h.c h.ne
 have hle := h.big
 refine ⟨h.d.grown gr (own_row_ne h.o h.d (by decide)), Row.grown h.nu gr (fun e => ?_), by rw [← hn]; exact own, h.c.kept gr ?_, fun k hk => ?_, h.bel.grown gr (by omega) (fun k hk => by have := (h.o.lt k hk).1; omega)⟩
 ·have := (h.o.lt _ e.symm).1; omega
 ·cases hm : vC.ownBlock with
  | none => exact .inl rfl
  | some x => exact .inr (fun e => h.ne x e.symm hm)
 ·have e : g = k := by injection hk
  subst e
  exact hne
theorem NK.appC (h : NK w dv vO vC ns o cs W) {g c n : Nat} {cs' : List Int} (own : W2.ownsRow (w.heap.size + 2) 3 1 (.slice (some ⟨g, 0, none⟩) n c) n (cs'.map (.int .i64))) (gr : W.grownBy W2 vC.ownBlock) (hat : vC.ownBlock = some g ∨ g = W.heap.size) : NK w dv vO (.slice (some ⟨g, 0, none⟩) n c) ns o cs' W2 := by
 have hn : n = cs'.length := by have := own.1; simpa using this.symm
 have hne := own_hat h.c hat h.o (fun k hk e => h.ne k e hk)
 have hle := h.big
 refine ⟨h.d.grown gr (own_row_ne h.c h.d (by decide)), Row.grown h.nu gr (fun e => ?_), h.o.kept gr ?_, by rw [← hn]; exact own, fun k hk e => ?_, h.bel.grown gr (by omega) (fun k hk => by have := (h.c.lt k hk).1; omega)⟩
 ·have := (h.c.lt _ e.symm).1; omega
 ·cases hm : vO.ownBlock with
  | none => exact .inl rfl
  | some x => exact .inr (fun e => h.ne x hm e.symm)
 ·have e : g = k := by injection e
  subst e
  exact hne hk
end
theorem rep_step (k n : Nat) (h : k < n) : (List.replicate k (-1 : Int) ++ List.replicate (n - k) 0).set k (-1) = List.replicate (k + 1) (-1) ++ List.replicate (n - (k + 1)) 0 := by
 have e : n - k = (n - (k + 1)) + 1 := by omega
 rw [e, List.replicate_succ, List.set_append_right _ _ (by simp), List.length_replicate, Nat.sub_self, List.set_cons_zero, List.replicate_succ' , List.append_assoc]
 rfl
theorem cut_mid {w : World} {A : Option Addr} {n c : Nat} {xs : List Int} (h : IntsAt w A n xs) {k : Nat} (hk : k + 5 ≤ n) (hc : n ≤ c) :
 ∃ (A1 : Option Addr) (c1 : Nat), IntsAt w A1 5 ((xs.drop k).take 5) ∧ ∀ W : World, (Instr.slice 22 (.slice A n c) (some (.int .i64 (k : Int))) (some (.int .i64 ((k + 5 : Nat) : Int))) none).run Tryd.prog W = .ok (.slice A1 5 c1) W := by
 have hl := h.len
 obtain ⟨b, o, rfl, hx⟩ := h.2 (by omega)
 refine ⟨some ⟨b, o + k, none⟩, c - k, ⟨by simp; omega, fun hp => ⟨b, o + k, rfl, fun j u hu => ?_⟩⟩, fun W => ?_⟩
 ·rw [List.map_take, List.getElem?_take] at hu
  split at hu
  ·rw [List.map_drop, List.getElem?_drop] at hu
   rw [Nat.add_assoc]
   exact hx _ u hu
  ·cases hu
 ·rw [run_slice_lh W 22 (some ⟨b, o, none⟩) n c elemI .i64 .i64 (k : Int) ((k + 5 : Nat) : Int) (by omega) (by omega) (by omega), sizeI]
  simp only [Result.andThen_ok]
  unfold sliced
  rw [Int.toNat_natCast, Int.toNat_natCast, if_neg (show ¬ c = k by omega), show k + 5 - k = 5 by omega]
  simp [Addr.add_lit]
end Go.Proofs.YtcaoblilkgajoaaDoor
end
