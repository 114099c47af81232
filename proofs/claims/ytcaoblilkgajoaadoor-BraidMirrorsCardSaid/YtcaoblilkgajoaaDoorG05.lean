/-
 The texts Wy, Wq, Wz, Wv, Ww, Wi, Xf, Rd, Rl, Xj, Push in one.
-/
import Derived.Test.YtcaoblilkgajoaaDoorG04
import Derived.Deep.DeepCutAuto
import Derived.Deep.CutBlock
import Derived.StillTailTactics
import Derived.RegionTactic
import Derived.Test.YtcaoblilkgajoaaDoorG03
import Derived.Test.YtcaoblilkgajoaaDoorG02
import Derived.Test.YtcaoblilkgajoaaDoorShelf
import Derived.Test.YtcaoblilkgajoaaDoorG01
set_option linter.unusedVariables false
set_option linter.unusedSimpArgs false
section
namespace Go.Proofs.YtcaoblilkgajoaaDoor
open Go Go.RowKit
theorem row_far {W : World} {g t : Nat} {vs : List Value} {base : Nat} {v : Value} {n : Nat} {xs : List Value} (h : Row W g t vs) (ht : t ≠ 3) (ho : W.ownsRow base 3 1 v n xs) : some g ≠ v.ownBlock := by
 intro e
 obtain ⟨cs, fr, h3⟩ := ownsRow_block ho g e.symm
 rw [h] at h3
 injection h3 with h3
 injection h3 with _ h4
 exact ht h4
def leadM (d : Pl.Dg) (mt : List Nat) (x : Int) (i o : Nat) : List Nat := if x < 0 then jn mt i o else jn (jn mt x.toNat i) o (d.m x.toNat)
section
variable {w : World} {gd gn gr gf g1 c1 n1 g2 c2 n2 base n u0 u1 : Nat} {s5 m5 dv ss : List Value} {lpr : Int} {mt : List Nat} {W W2 : World}
end
end Go.Proofs.YtcaoblilkgajoaaDoor
end
section
namespace Go.Proofs.YtcaoblilkgajoaaDoor
open Go Go.RowKit
def needP (x y sg : Int) : Nat := (if x < 0 then 1 else 0) + (if y < 0 ∧ sg = 0 then 1 else 0)
/-- What pokeable answers. -/
def pkC (d : Pl.Dg) (F P : List Nat) (x y sg : Int) : Int :=
 if d.lp < needP x y sg then 6 else if 0 ≤ x ∧ 0 ≤ y ∧ x ≠ y ∧ nearB F P d x.toNat y.toNat = false then 6 else if 64 < d.n + 2 then 5 else 0
def PkPost (d : Pl.Dg) (F P : List Nat) (x y sg : Int) (w : World) (e : Ending) (w' : World) : Prop := e = .returned (.int .i64 (pkC d F P x y sg)) ∧ Below w.heap.size w w'
end Go.Proofs.YtcaoblilkgajoaaDoor
end
section
namespace Go.Proofs.YtcaoblilkgajoaaDoor
open Go Go.RowKit
attribute [local go_sem ↓] Go.wp_at_zero Go.wp_at_succ
theorem RowT.drew {w : World} {t : TypeId} {A : Option Addr} {n : Nat} {xs : List Value} (h : RowT w t A n xs) : RowT w.drew t A n xs := h
section
variable {w W W' : World} {s5 m5 : List Value}
end
section
variable {w : World} {gd gn gr gf g1 c1 n1 g2 c2 n2 base n u0 u1 : Nat} {s5 m5 dv ss : List Value} {lpr : Int} {mt : List Nat} {W W2 : World}
end
def pP (d : Pl.Dg) (x y : Int) (ov : Bool) (t : Nat) : Nat := plc d.n (un0 d x y ov) t
def pQ (d : Pl.Dg) (x y : Int) (ov : Bool) (t : Nat) : Nat := plc (d.n + 1) (un1 d x y ov) t
/-- The mates that every poke has. -/
def pk0 (d : Pl.Dg) (x y : Int) (ov : Bool) : List Nat := jn (jn (d.mt ++ List.replicate 8 0) (pP d x y ov 1) (pQ d x y ov 1)) (pQ d x y ov 2) (pP d x y ov 0)
/-- The mates after a poke. -/
def pkM (d : Pl.Dg) (x y sg : Int) (ov : Bool) : List Nat :=
 if sg ≠ 0 ∧ x < 0 then jn (jn (pk0 d x y ov) (pQ d x y ov 3) (pQ d x y ov 0)) (pP d x y ov 2) (pP d x y ov 3)
 else if sg = 1 then jn (jn (jn (pk0 d x y ov) x.toNat (pP d x y ov 3)) (pQ d x y ov 3) (pQ d x y ov 0)) (pP d x y ov 2) (d.m x.toNat)
 else if sg = -1 then jn (jn (jn (pk0 d x y ov) x.toNat (pQ d x y ov 0)) (pP d x y ov 2) (pP d x y ov 3)) (pQ d x y ov 3) (d.m x.toNat)
 else leadM d (leadM d (pk0 d x y ov) y (pQ d x y ov 0) (pP d x y ov 2)) x (pP d x y ov 3) (pQ d x y ov 3)
def pkL (d : Pl.Dg) (x y sg : Int) : Int := if sg ≠ 0 ∧ x < 0 then (d.lp : Int) - 1 else if sg = 0 then (if x < 0 then (if y < 0 then (d.lp : Int) - 1 else d.lp) - 1 else (if y < 0 then (d.lp : Int) - 1 else d.lp)) else d.lp
def pkD (d : Pl.Dg) (x y sg : Int) (ov : Bool) : Pl.Dg := ⟨d.sg ++ [sgn2 (un0 d x y ov) (ov0 d x y ov), sgn2 (un1 d x y ov) (ov1 d x y ov)], pkM d x y sg ov, (pkL d x y sg).toNat⟩
def PokePost (d : Pl.Dg) (F P : List Nat) (x y sg : Int) (ov : Bool) (w : World) (e : Ending) (w' : World) : Prop :=
 (pkC d F P x y sg ≠ 0 → ResErr (pkC d F P x y sg) e) ∧ (pkC d F P x y sg = 0 → ResOk (pkD d x y sg ov) ⟨4, d.n, d.n + 1, 0, false⟩ e w') ∧ Below w.heap.size w w'
end Go.Proofs.YtcaoblilkgajoaaDoor
end
section
namespace Go.Proofs.YtcaoblilkgajoaaDoor
open Go Go.RowKit
/-- The crossings below k with the label i. -/
def Gl (ps : List Int) (k i : Nat) : List Nat := (List.range k).filter (fun c => decide (Pl.pv ps c = (i : Int)))
theorem Gl_succ (ps : List Int) (k i : Nat) : Gl ps (k + 1) i = Gl ps k i ++ if Pl.pv ps k = (i : Int) then [k] else [] := by
 unfold Gl
 rw [List.range_succ, List.filter_append]
 by_cases h : Pl.pv ps k = (i : Int) <;> simp [List.filter_cons, h]
theorem Gl_len (ps : List Int) (k i : Nat) : (Gl ps k i).length ≤ k := by
 unfold Gl
 have := List.length_filter_le (fun c => decide (Pl.pv ps c = (i : Int))) (List.range k)
 simpa using this
theorem mem_Gl {ps : List Int} {k i c : Nat} : c ∈ Gl ps k i ↔ c < k ∧ Pl.pv ps c = (i : Int) := by unfold Gl; simp
def gv (vs : List Value) (i : Nat) : Value := vs.getD i (.slice none 0 0)
/-- Groups that are being filled. -/
structure Grp (w : World) (g P : Nat) (ps : List Int) (k : Nat) (vs : List Value) (W : World) : Prop where
 len : vs.length = P
 row : Row W g 22 vs
 own : ∀ i, i < P → W.ownsRow (g + 1) 3 1 (gv vs i) (Gl ps k i).length ((Gl ps k i).map (fun k : Nat => Value.int .i64 k))
 ne : ∀ i j, i < P → j < P → i ≠ j → ∀ b, (gv vs i).ownBlock = some b → (gv vs j).ownBlock ≠ some b
 bel : Below w.heap.size w W
 lo : w.heap.size ≤ g
theorem Grp.below {w : World} {g P : Nat} {ps : List Int} {k : Nat} {vs : List Value} {W W' : World} (h : Grp w g P ps k vs W) (hb : Below W.heap.size W W') : Grp w g P ps k vs W' :=
 ⟨h.len, h.row.below hb, fun i hi => own_keep (h.own i hi) hb (Nat.le_refl _), h.ne, h.bel.trans (hb.mono h.bel.size), h.lo⟩
theorem gv_set {vs : List Value} {q : Nat} (hq : q < vs.length) (v : Value) (i : Nat) : gv (vs.set q v) i = if i = q then v else gv vs i := by
 unfold gv
 rw [List.getD_eq_getElem?_getD, List.getD_eq_getElem?_getD, List.getElem?_set]
 by_cases h : q = i
 ·subst h; simp [hq]
 ·rw [if_neg h, if_neg (fun e => h e.symm)]
theorem Grp.put {w : World} {g P : Nat} {ps : List Int} {k q : Nat} {vs : List Value} {W W2 : World} {v' : Value} {g' : Nat} (h : Grp w g P ps k vs W) (hq : q < P) (hp : Pl.pv ps k = (q : Int))
 (own : W2.ownsRow (g + 1) 3 1 v' ((Gl ps k q).length + 1) ((Gl ps k q).map (fun k : Nat => Value.int .i64 k) ++ [.int .i64 (k : Nat)])) (gr : W.grownBy W2 (gv vs q).ownBlock) (hv : v'.ownBlock = some g') (hat : (gv vs q).ownBlock = some g' ∨ g' = W.heap.size) :
 Grp w g P ps (k + 1) (vs.set q v') (W2.setCell ⟨g, q, none⟩ v') := by
 have hql : q < vs.length := by rw [h.len]; exact hq
 have hlt := fun i hi => (h.own i hi).lt
 refine ⟨by rw [List.length_set, h.len], (h.row.grown gr ?_).set q v', fun i hi => ?_, fun i j hi hj hij b e1 e2 => ?_, (h.bel.grown gr h.bel.size (fun b e => by have := (hlt q hq b e).1; have := h.lo; omega)).setCell h.lo _, h.lo⟩
 ·intro e
  have := (hlt q hq g e.symm).1
  omega
 ·rw [gv_set hql, Gl_succ]
  by_cases e : i = q
  ·subst e
   rw [if_pos rfl, if_pos hp]
   refine ownsRow_setCell_below ?_ (by show g < g + 1; omega) _
   simpa using own
  ·rw [if_neg e, if_neg (by omega), List.append_nil]
   refine ownsRow_setCell_below ((h.own i hi).kept gr ?_) (by show g < g + 1; omega) _
   cases hm : (gv vs i).ownBlock with
   | none => exact .inl rfl
   | some b => exact .inr (fun e' => h.ne i q hi hq e b hm e'.symm)
 ·rw [gv_set hql] at e1 e2
  by_cases ei : i = q
  ·rw [if_pos ei, hv] at e1
   injection e1 with e1
   rw [if_neg (by omega)] at e2
   rcases hat with e | e
   ·exact h.ne q j hq hj (by omega) g' e (by rw [e2, e1])
   ·have := (hlt j hj b e2).2
    omega
  ·rw [if_neg ei] at e1
   by_cases ej : j = q
   ·rw [if_pos ej, hv] at e2
    injection e2 with e2
    rcases hat with e | e
    ·exact h.ne i q hi hq ei g' (by rw [e1, e2]) e
    ·have := (hlt i hi b e1).2
     omega
   ·rw [if_neg ej] at e2
    exact h.ne i j hi hj hij b e1 e2
def GraphPost (d : Pl.Dg) (w : World) (e : Ending) (w' : World) : Prop :=
 ∃ (A : Option Addr) (c P : Nat) (ps : List Int) (vs : List Value), e = .returned (.slice A P c) ∧ P ≤ d.n ∧ Pl.LB d ps P ∧ (∀ a, a < d.n → 0 ≤ Pl.pv ps a) ∧ RowT w' 22 A P vs ∧ Vs w' vs ((List.range P).map (Gl ps d.n)) ∧ Below w.heap.size w w' ∧ Far w.heap.size vs
theorem run_rows (n : Nat) (hn : n ≤ 100000) (w : World) : (Instr.makeSlice 52 (.int .i64 (n : Int)) (.int .i64 (n : Int))).run Tryd.prog w = .ok (.slice (some ⟨w.heap.size, 0, none⟩) n n) (w.alloc (.cells (Array.replicate n (Value.slice none 0 0)) 22)) := by
 obtain ⟨i0, hi, hz0, hz1, hz2⟩ := info_parts rowInfo
 have := run_make (P := Tryd.prog) w 52 22 i0 (.slice none 0 0) Tryd.underlying52 hi hz0 .i64 .i64 n n (by omega) (Int.le_refl _) (by rw [hz2]; omega) (by omega)
 rw [hz1, Nat.mul_one, Int.toNat_natCast, show madeCells (Value.cells (.slice none 0 0)) n = (List.replicate n (.slice none 0 0)).toArray from made_rep _ _] at this
 exact this
theorem Row.gv {W : World} {g : Nat} {t : TypeId} {vs : List Value} (h : Row W g t vs) {q : Nat} (hq : q < vs.length) : W.cell? ⟨g, q, none⟩ = some (gv vs q) := by
 rw [h.cell hq]
 unfold Go.Proofs.YtcaoblilkgajoaaDoor.gv
 rw [List.getD_eq_getElem?_getD, List.getElem?_eq_getElem hq]; rfl
theorem range_get {P i : Nat} {l : List Nat} {f : Nat → List Nat} (e : ((List.range P).map f)[i]? = some l) : i < P ∧ l = f i := by
 rw [List.getElem?_map] at e
 by_cases h : i < P
 ·rw [List.getElem?_range h] at e
  injection e with e
  exact ⟨h, e.symm⟩
 ·rw [List.getElem?_eq_none (by simpa using Nat.le_of_not_lt h)] at e
  cases e
theorem Grp.vs {w : World} {g P : Nat} {ps : List Int} {k : Nat} {vs : List Value} {W : World} (h : Grp w g P ps k vs W) : Vs W vs ((List.range P).map (Gl ps k)) := by
 refine ⟨by simp [h.len], fun i l e => ?_⟩
 obtain ⟨hi, rfl⟩ := range_get e
 have ho := h.own i hi
 obtain ⟨A, c, e2⟩ := owns_slice ho
 refine ⟨Go.Proofs.YtcaoblilkgajoaaDoor.gv vs i, ?_, A, c, e2, by rw [e2] at ho; exact own_rowT ho⟩
 unfold Go.Proofs.YtcaoblilkgajoaaDoor.gv
 rw [List.getD_eq_getElem?_getD, List.getElem?_eq_getElem (by rw [h.len]; exact hi)]; rfl
theorem Grp.far {w : World} {g P : Nat} {ps : List Int} {k : Nat} {vs : List Value} {W : World} (h : Grp w g P ps k vs W) : Far w.heap.size vs := fun v hv b hb => by
 obtain ⟨i, hi, e⟩ := List.mem_iff_getElem.1 hv
 have h1 : Go.Proofs.YtcaoblilkgajoaaDoor.gv vs i = v := by unfold Go.Proofs.YtcaoblilkgajoaaDoor.gv; rw [List.getD_eq_getElem?_getD, List.getElem?_eq_getElem hi]; exact e
 have h2 := (h.own i (by rw [← h.len]; exact hi)).lt b (by rw [h1]; exact hb)
 have := h.lo
 omega
set_option maxRecDepth 100000 in
set_option maxHeartbeats 2000000 in
theorem graph_any (d : Pl.Dg) (hd : Pl.Valid d) (A B : Option Addr) (cp cq m : Nat) (w : World) (hm : m = 4 * d.n) (hg : DgAt w A B d) :
 Calls Tryd.prog 78 #[.agg #[.slice A d.n cp, .slice B m cq, .int .i64 d.lp]] w (GraphPost d w) := by
 have hn := hd.wf.few
 have HM := hide hm
 have HG := hide hg
 have B0 := hide (show Below w.heap.size w (w.alloc (.cells #[.slice A d.n cp, .slice B m cq, .int .i64 d.lp] 28)) from (Below.refl _ _).alloc (Nat.le_refl _) _)
 have X0 := hide (show Row (w.alloc (.cells #[.slice A d.n cp, .slice B m cq, .int .i64 d.lp] 28)) w.heap.size 28 [.slice A d.n cp, .slice B m cq, .int .i64 d.lp] from Row.new w _ [_, _, _])
 clear hg
 subst hm
 go_enter Tryd.func78, Tryd.ntmps78
 go_wp2_with fail
 refine (valid_yes d hd A B cp cq _ _ rfl (HG.out.keep B0.out)).mono ?_
 rintro e w1 ⟨rfl, hb1⟩
 have B1 := hide (B0.out.trans (hb1.mono B0.out.size))
 have X1 := hide (X0.out.below hb1)
 obtain ⟨f0, f1, f2, f3⟩ := box3 X1.out
 clear hb1
 go_wp2_with fail
 refine (label_any d hd.wf A B cp cq _ _ (HG.out.keep B1.out)).mono ?_
 rintro e w2 ⟨ps, P, gp, rfl, hlb, hall, hgp, hir, hb2⟩
 have HLB := hide hlb
 have HALL := hide hall
 have hPn := hlb.le
 have HIR := hide hir
 have B2 := hide (B1.out.trans (hb2.mono B1.out.size))
 have hgps := hir.lt
 have hps : ps.length = d.n := hlb.len
 have HPS := hide hps
 clear hlb hall hir hb2 f0 f1 f2 f3 hps
 have hmk := fun W : World => run_rows P (by omega) W
 have H0 := hide (show Grp w w2.heap.size P ps 0 (List.replicate P (.slice none 0 0)) (w2.alloc (.cells (Array.replicate P (Value.slice none 0 0)) 22)) from by
  have hgv : ∀ i, gv (List.replicate P (.slice none 0 0)) i = .slice none 0 0 := fun i => by
   unfold Go.Proofs.YtcaoblilkgajoaaDoor.gv
   rw [List.getD_eq_getElem?_getD, List.getElem?_replicate]
   split <;> rfl
  refine ⟨by simp, ?_, fun i hi => ?_, fun i j hi hj hij b e => ?_, B2.out.alloc B2.out.size _, B2.out.size⟩
  ·have := Row.new w2 22 (List.replicate P (.slice none 0 0))
   simpa using this
  ·rw [hgv]; exact World.ownsRow_nil _ _ _ _
  ·rw [hgv] at e; simp [Value.ownBlock] at e)
 have HI0 := hide (show IRow (w2.alloc (.cells (Array.replicate P (Value.slice none 0 0)) 22)) gp ps from Row.alloc HIR.out _)
 go_wp2
 clear hmk
 obtain ⟨gg, hgg⟩ : ∃ gg, gg = w2.heap.size := ⟨_, rfl⟩
 rw [← hgg] at H0 hgps ⊢
 have HGG := hide hgg
 go_loopg [20] d.n (fun g i wx => ∃ (k : Nat) (vs : List Value), k + g = d.n ∧ i = .int .i64 k ∧ Grp w gg P ps k vs wx ∧ IRow wx gp ps)
 case atStart => exact ⟨0, _, by omega, rfl, by have := H0.out; rw [hgg] at this ⊢; exact this, HI0.out⟩
 case round =>
  clear H0 HI0 HIR hgg HGG
  obtain ⟨k, vs, hkg, rfl, hgr, hir⟩ := hrel
  have HKG := hide hkg
  have hkn : k ≤ d.n := by omega
  have HGR := hide hgr
  have HIR := hide hir
  have hsz := hgr.row.lt
  clear hkg hgr hir
  by_cases hlt : k < d.n
  ·have c1 := HIR.out.cell (i := k) (by rw [HPS.out]; exact hlt)
   have h0 := HALL.out k hlt
   have h1 := (HLB.out.lo k hlt).2
   obtain ⟨q, hq⟩ := Int.eq_ofNat_of_zero_le h0
   rw [hq] at c1 h1
   have HQ := hide hq
   clear hq h0
   have hqP : q < P := by omega
   have hql : q < vs.length := by rw [HGR.out.len]; exact hqP
   have c2 := HGR.out.row.gv hql
   have fr2 := HGR.out.row.free q
   obtain ⟨vq, hvq⟩ : ∃ v, v = gv vs q := ⟨_, rfl⟩
   rw [← hvq] at c2
   have HVQ := hide hvq
   clear hvq
   have iq : (0 : Int) ≤ (q : Int) := by omega
   have jq : (q : Int) < (P : Int) := by omega
   have hgl := Gl_len ps k q
   obtain ⟨i0, hi0, hz0, hz1, hz2⟩ := info_parts intInfo
   have OQ := hide (show wr.ownsRow (gg + 1) 3 1 vq (Gl ps k q).length ((Gl ps k q).map (fun k : Nat => Value.int .i64 k)) by rw [HVQ.out]; exact HGR.out.own q hqP)
   go_wp2_with (at_builtin; refine wpList_append_lies _ (by rfl) _ _ 22 (by rfl) (gg + 1) 3 i0 (.int .i64 0) 1 8 Tryd.underlying22 hi0 hz0 hz1 hz2 rfl (by omega) vq (Gl ps k q).length _ (by rfl) (OQ.out.alloc _) ⟨wr.heap.size, 0, none⟩ 1 1 [.int .i64 (k : Nat)] (by rfl) (by rfl) (one_news wr (.int .i64 (k : Nat))) (by simp [Value.oneCell']) (by omega) (by unfold maxLen; omega) (by omega) (by simp; omega) (wr.heap.size + 1) (by simp) ?_; intro g3 c3 w3 own3 grow3 at3 lt3; have hrow3 := Row.grown (Row.alloc HGR.out.row (.cells #[.int .i64 (k : Nat)] 3)) grow3 (by intro e; have := (OQ.out.lt gg e.symm).1; omega); have cq3 := hrow3.gv hql; have fq3 := hrow3.free q; have OWN3 := hide own3; have GR3 := hide grow3; have AT3 := hide at3; have HROW3 := hide hrow3; clear own3 grow3 at3 hrow3)
   go_roundg (gk - 1)
   case measure => have := HKG.out; omega
   case rel =>
    refine ⟨k + 1, vs.set q (.slice (some ⟨g3, 0, none⟩) ((Gl ps k q).length + 1) c3), by have := HKG.out; omega, by go_num, ?_, ?_⟩
    ·exact Grp.put (HGR.out.below ((Below.refl _ _).alloc (Nat.le_refl _) (.cells #[.int .i64 (k : Nat)] 3))) hqP HQ.out OWN3.out (by rw [← HVQ.out]; exact GR3.out) rfl (by rw [← HVQ.out]; simpa using AT3.out)
    ·refine Row.other (Row.grown (Row.alloc HIR.out _) GR3.out ?_) (by show gp ≠ gg; omega) _
     intro e
     have := (OQ.out.lt gp e.symm).1
     omega
  ·go_wp2
   go_ret
   obtain rfl : k = d.n := by omega
   refine ⟨_, _, P, ps, vs, rfl, hPn, HLB.out, HALL.out, ?_, HGR.out.vs, HGR.out.bel, HGR.out.far⟩
   refine ⟨HGR.out.len, fun _ => ⟨gg, 0, vs.toArray, (0, 0), rfl, HGR.out.row, fun j u hu => ?_⟩⟩
   rw [Nat.zero_add]
   simpa using hu
end Go.Proofs.YtcaoblilkgajoaaDoor
end
section
namespace Go.Proofs.YtcaoblilkgajoaaDoor
open Go Go.RowKit
/-- The lists below i are numbered; of list i the first j members. -/
def LabJ (fs : List (List Nat)) (i j : Nat) (F : List Nat) : Prop := (∀ (i' : Nat) l x, i' < i → fs[i']? = some l → x ∈ l → F.getD x 0 = i') ∧ ∀ l x, fs[i]? = some l → x ∈ l.take j → F.getD x 0 = i
def Dis (fs : List (List Nat)) (N : Nat) : Prop := (∀ (i j : Nat) (l m : List Nat) (h : Nat), fs[i]? = some l → fs[j]? = some m → h ∈ l → h ∈ m → i = j) ∧ ∀ l x, l ∈ fs → x ∈ l → x < N
theorem LabJ.start (fs : List (List Nat)) (F : List Nat) : LabJ fs 0 0 F := ⟨fun i' l x h => absurd h (by omega), fun l x _ h => by simp at h⟩
theorem getD_set {F : List Nat} {y : Nat} (hy : y < F.length) (v x : Nat) : (F.set y v).getD x 0 = if x = y then v else F.getD x 0 := by
 rw [List.getD_eq_getElem?_getD, List.getD_eq_getElem?_getD, List.getElem?_set]
 by_cases h : y = x
 ·subst h; simp [hy]
 ·rw [if_neg h, if_neg (fun e => h e.symm)]
theorem LabJ.step {fs : List (List Nat)} {i j y N : Nat} {F l : List Nat} (h : LabJ fs i j F) (hd : Dis fs N) (hl : fs[i]? = some l) (hj : j < l.length) (hy : l.getD j 0 = y) (hF : F.length = N) : LabJ fs i (j + 1) (F.set y i) := by
 have hyl : y ∈ l := by rw [← hy, List.getD_eq_getElem?_getD, List.getElem?_eq_getElem hj]; exact List.getElem_mem hj
 have hyN : y < F.length := by rw [hF]; exact hd.2 l y (List.mem_of_getElem? hl) hyl
 refine ⟨fun i' m x hi' hm hx => ?_, fun m x hm hx => ?_⟩
 ·rw [getD_set hyN]
  by_cases e : x = y
  ·subst e
   have := hd.1 i' i m l x hm hl hx hyl
   omega
  ·rw [if_neg e]; exact h.1 i' m x hi' hm hx
 ·rw [hl] at hm
  injection hm with hm
  subst hm
  rw [getD_set hyN]
  by_cases e : x = y
  ·rw [if_pos e]
  ·rw [if_neg e]
   refine h.2 l x hl ?_
   rw [List.take_succ_eq_append_getElem hj, List.mem_append, List.mem_singleton] at hx
   rcases hx with hx | hx
   ·exact hx
   ·exfalso
    apply e
    rw [hx, ← hy, List.getD_eq_getElem?_getD, List.getElem?_eq_getElem hj]; rfl
theorem LabJ.next {fs : List (List Nat)} {i j : Nat} {F l : List Nat} (h : LabJ fs i j F) (hl : fs[i]? = some l) (hj : l.length ≤ j) : LabJ fs (i + 1) 0 F := by
 refine ⟨fun i' m x hi' hm hx => ?_, fun m x _ hx => by simp at hx⟩
 by_cases e : i' = i
 ·subst e
  rw [hl] at hm
  injection hm with hm
  subst hm
  exact h.2 l x hl (by rw [List.take_of_length_le hj]; exact hx)
 ·exact h.1 i' m x (by omega) hm hx
theorem Fcs_dis {f : Nat → Nat} {W : Nat → Prop} {N : Nat} {S : Nat → Prop} {fs : List (List Nat)} {bs : List Bool} (h : Pl.Fcs f W N N fs bs) (hb : Pl.Bij N S f) (hS : ∀ x, x < N → S x) : Dis fs N :=
 ⟨h.one, fun l x hl hx => by
   obtain ⟨g, p, h1, _, h3, rfl⟩ := h.is l hl
   exact hb.lt _ (hb.orb_mem (hS g h1) ((Pl.mem_cyc h3).1 hx))⟩
theorem Gl_dis (ps : List Int) (P n : Nat) : Dis ((List.range P).map (Gl ps n)) n := by
 refine ⟨fun i j l m h e1 e2 h1 h2 => ?_, fun l x hl hx => ?_⟩
 ·obtain ⟨_, rfl⟩ := range_get e1
  obtain ⟨_, rfl⟩ := range_get e2
  have a := (mem_Gl.1 h1).2
  have b := (mem_Gl.1 h2).2
  omega
 ·obtain ⟨i, _, rfl⟩ := List.mem_map.1 hl
  exact (mem_Gl.1 hx).1
theorem nats_set (F : List Nat) (y v : Nat) : nats (F.set y v) = (nats F).set y (v : Int) := by unfold nats; rw [List.map_set]
theorem heap5 (w : World) (o0 o1 o2 o3 o4 : Obj) :
 ((((((w.alloc o0).alloc o1).alloc o2).alloc o3).alloc o4).drew).heap[w.heap.size]? = some o0 ∧ ((((((w.alloc o0).alloc o1).alloc o2).alloc o3).alloc o4).drew).heap[w.heap.size + 1]? = some o1 ∧ ((((((w.alloc o0).alloc o1).alloc o2).alloc o3).alloc o4).drew).heap[w.heap.size + 1 + 1]? = some o2 ∧
 ((((((w.alloc o0).alloc o1).alloc o2).alloc o3).alloc o4).drew).heap[w.heap.size + 1 + 1 + 1]? = some o3 ∧ ((((((w.alloc o0).alloc o1).alloc o2).alloc o3).alloc o4).drew).heap[w.heap.size + 1 + 1 + 1 + 1]? = some o4 ∧ Below w.heap.size w ((((((w.alloc o0).alloc o1).alloc o2).alloc o3).alloc o4).drew) := by
 have e : ∀ W : World, W.drew.heap = W.heap := fun _ => rfl
 have f : ∀ (W : World) (o : Obj), (W.alloc o).heap = W.heap.push o := fun _ _ => rfl
 refine ⟨?_, ?_, ?_, ?_, ?_, ((((((Below.refl _ _).alloc (Nat.le_refl _) _).alloc (by simp) _).alloc (by simp; omega) _).alloc (by simp; omega) _).alloc (by simp; omega) _).drew⟩
 all_goals
  rw [e]
  simp only [f, Array.getElem?_push, Array.size_push]
  repeat (first | rw [if_pos trivial] | rw [if_pos (by omega)] | rw [if_neg (by omega)])
def SurveyPost (d : Pl.Dg) (A B : Option Addr) (cp cq : Nat) (w : World) (e : Ending) (w' : World) : Prop :=
 ∃ (L R : Option Addr) (cl cr : Nat) (F P : List Nat), e = .returned (sheetV A B L R d.n (4 * d.n) d.lp cp cq cl cr) ∧ ShAt w' A B L R d F P ∧ (∀ x y, x < 4 * d.n → y < 4 * d.n → (F.getD x 0 = F.getD y 0 ↔ Pl.Orb (Pl.nx d) x y)) ∧ (∀ x y, x < d.n → y < d.n → (P.getD x 0 = P.getD y 0 ↔ Pl.Comp d x y)) ∧ Below w.heap.size w w'
end Go.Proofs.YtcaoblilkgajoaaDoor
end
section
namespace Go.Proofs.YtcaoblilkgajoaaDoor
open Go.RowKit
/-- What inRange answers. -/
def inR (n : Nat) (m : Mv) : Prop :=
 if m.kind = 1 then -1 ≤ m.x ∧ m.x < 4 * n ∧ m.y = 0 ∧ (m.sign = 1 ∨ m.sign = -1)
 else if m.kind = 2 then 0 ≤ m.x ∧ m.x < n ∧ m.y = 0 ∧ m.sign = 0 ∧ m.over = false
 else if m.kind = 4 then 0 ≤ m.x ∧ m.x < m.y ∧ m.y < n ∧ m.sign = 0 ∧ m.over = false
 else if m.kind = 5 then 0 ≤ m.x ∧ m.x < 4 * n ∧ m.y = 0 ∧ m.sign = 0 ∧ m.over = false
 else -2 ≤ m.x ∧ m.x < 4 * n ∧ -2 ≤ m.y ∧ m.y < 4 * n ∧ (if m.x ≠ m.y then m.sign = 0 else if m.x < 0 then m.sign = 0 ∨ m.sign = 1 else m.sign = 1 ∨ m.sign = -1)
def InPost (n : Nat) (m : Mv) (w : World) (e : Ending) (w' : World) : Prop := e = .returned (.bool (Pl.vb (inR n m))) ∧ Below w.heap.size w w'
theorem in_ret {p : Prop} {b : Bool} (h : b = true ↔ p) : Ending.returned (.bool b) = .returned (.bool (Pl.vb p)) := by
 refine ret_bool ?_
 rw [Bool.eq_iff_iff, Pl.vb_iff, h]
end Go.Proofs.YtcaoblilkgajoaaDoor
end
section
namespace Go.Proofs.YtcaoblilkgajoaaDoor
open Go Go.RowKit
attribute [local go_sem ↓] Go.wp_at_zero Go.wp_at_succ
/-- A code, and a diagram and a move where it is 0. -/
def ResC (c : Int) (r : Pl.Dg) (mv : Mv) (w : World) (e : Ending) (w' : World) : Prop := (c ≠ 0 → ResErr c e) ∧ (c = 0 → ResOk r mv e w') ∧ Below w.heap.size w w'
theorem ResOk.split {r : Pl.Dg} {mv : Mv} {e : Ending} {w' : World} (h : ResOk r mv e w') : ∃ (A B : Option Addr) (c1 c2 : Nat) (k x y s : Int) (o : Bool), mv = ⟨k, x, y, s, o⟩ ∧ e = .returned (.tuple #[.agg #[.slice A r.n c1, .slice B (4 * r.n) c2, .int .i64 r.lp], .agg #[.int .i64 k, .int .i64 x, .int .i64 y, .int .i64 s, .bool o], .int .i64 0]) ∧ DgT w' A B r := by
 obtain ⟨A, B, c1, c2, he, hd⟩ := h
 obtain ⟨k, x, y, s, o⟩ := mv
 exact ⟨A, B, c1, c2, k, x, y, s, o, rfl, he, hd⟩
theorem ResErr.split {c : Int} {e : Ending} (h : ResErr c e) : e = .returned (.tuple #[.agg #[.slice none 0 0, .slice none 0 0, .int .i64 0], .agg #[.int .i64 0, .int .i64 0, .int .i64 0, .int .i64 0, .bool false], .int .i64 c]) := h
theorem DgT.store {w : World} {A B : Option Addr} {d : Pl.Dg} {g o : Nat} {t : TypeId} {vs : List Value} (h : DgT w A B d) (hr : Row w g t vs) (hne : 3 ≠ t) (v : Value) : DgT (w.setCell ⟨g, o, none⟩ v) A B d := ⟨h.s.store hr hne v, h.m.store hr hne v⟩
section
variable {w W W' : World} {gr gi : Nat} {dv mv : List Value}
end
section
variable {w W W' : World} {gr gi : Nat} {dv mv : List Value} {A B : Option Addr} {r : Pl.Dg}
end
theorem cells3 {W : World} {g : Nat} {t : TypeId} {vs : List Value} (h : Row W g t vs) (l : vs.length = 3) : W.cell? ⟨g, 0, none⟩ = some (cv W ⟨g, 0, none⟩) ∧ W.cell? ⟨g, 1, none⟩ = some (cv W ⟨g, 1, none⟩) ∧ W.cell? ⟨g, 2, none⟩ = some (cv W ⟨g, 2, none⟩) ∧ ∀ o, W.frozen? ⟨g, o, none⟩ = false :=
 ⟨cv_some (h.cell (i := 0) (by omega)), cv_some (h.cell (i := 1) (by omega)), cv_some (h.cell (i := 2) (by omega)), h.free⟩
theorem cells5 {W : World} {g : Nat} {t : TypeId} {vs : List Value} (h : Row W g t vs) (l : vs.length = 5) : W.cell? ⟨g, 0, none⟩ = some (cv W ⟨g, 0, none⟩) ∧ W.cell? ⟨g, 1, none⟩ = some (cv W ⟨g, 1, none⟩) ∧ W.cell? ⟨g, 2, none⟩ = some (cv W ⟨g, 2, none⟩) ∧ W.cell? ⟨g, 3, none⟩ = some (cv W ⟨g, 3, none⟩) ∧ W.cell? ⟨g, 4, none⟩ = some (cv W ⟨g, 4, none⟩) ∧ ∀ o, W.frozen? ⟨g, o, none⟩ = false :=
 ⟨cv_some (h.cell (i := 0) (by omega)), cv_some (h.cell (i := 1) (by omega)), cv_some (h.cell (i := 2) (by omega)), cv_some (h.cell (i := 3) (by omega)), cv_some (h.cell (i := 4) (by omega)), h.free⟩
/-- What unpoke answers. -/
def unpD (d : Pl.Dg) (x y : Nat) : Pl.Dg := match lensI d x y with
 | some i => unpDl d (lensOf d (lnH x y i)) x y
 | none => d
/-- Two half-edges' edges can be pushed over each other. -/
def nearP (d : Pl.Dg) (x y : Nat) : Prop := (Pl.Orb (Pl.nx d) x y ∨ ¬ Pl.Comp d (x / 4) (y / 4)) ∧ d.m x ≠ y
noncomputable def pkQ (d : Pl.Dg) (x y sg : Int) : Int :=
 if d.lp < needP x y sg then 6 else if Pl.vb (0 ≤ x ∧ 0 ≤ y ∧ x ≠ y ∧ ¬ nearP d x.toNat y.toNat) = true then 6 else if 64 < d.n + 2 then 5 else 0
theorem pkC_eq {d : Pl.Dg} {F P : List Nat} (hF : ∀ x y, x < 4 * d.n → y < 4 * d.n → (F.getD x 0 = F.getD y 0 ↔ Pl.Orb (Pl.nx d) x y)) (hP : ∀ x y, x < d.n → y < d.n → (P.getD x 0 = P.getD y 0 ↔ Pl.Comp d x y)) {x y sg : Int} (hx : x < 4 * d.n) (hy : y < 4 * d.n) : pkC d F P x y sg = pkQ d x y sg := by
 unfold pkC pkQ
 by_cases hl : d.lp < needP x y sg
 ·rw [if_pos hl, if_pos hl]
 rw [if_neg hl, if_neg hl]
 by_cases h0 : 0 ≤ x ∧ 0 ≤ y
 ·have e : nearB F P d x.toNat y.toNat = false ↔ ¬ nearP d x.toNat y.toNat := by
   have h1 := hF x.toNat y.toNat (by omega) (by omega)
   have h2 := hP (x.toNat / 4) (y.toNat / 4) (by omega) (by omega)
   unfold nearB nearP
   rw [← h1, ← h2]
   by_cases q1 : F.getD x.toNat 0 = F.getD y.toNat 0 <;> by_cases q2 : P.getD (x.toNat / 4) 0 = P.getD (y.toNat / 4) 0 <;> by_cases q3 : d.m x.toNat = y.toNat <;> simp [q1, q2, q3]
  by_cases h3 : x ≠ y ∧ nearB F P d x.toNat y.toNat = false
  ·rw [if_pos (show 0 ≤ x ∧ 0 ≤ y ∧ x ≠ y ∧ nearB F P d x.toNat y.toNat = false from ⟨h0.1, h0.2, h3⟩), if_pos (Pl.vb_true ⟨h0.1, h0.2, h3.1, e.1 h3.2⟩)]
  ·rw [if_neg (show ¬ (0 ≤ x ∧ 0 ≤ y ∧ x ≠ y ∧ nearB F P d x.toNat y.toNat = false) from fun h => h3 h.2.2), if_neg (show ¬ (Pl.vb (0 ≤ x ∧ 0 ≤ y ∧ x ≠ y ∧ ¬ nearP d x.toNat y.toNat) = true) by rw [Pl.vb_false (fun h => h3 ⟨h.2.2.1, e.2 h.2.2.2⟩)]; decide)]
 ·rw [if_neg (show ¬ (0 ≤ x ∧ 0 ≤ y ∧ x ≠ y ∧ nearB F P d x.toNat y.toNat = false) from fun h => h0 ⟨h.1, h.2.1⟩), if_neg (show ¬ (Pl.vb (0 ≤ x ∧ 0 ≤ y ∧ x ≠ y ∧ ¬ nearP d x.toNat y.toNat) = true) by rw [Pl.vb_false (fun h => h0 ⟨h.1, h.2.1⟩)]; decide)]
end Go.Proofs.YtcaoblilkgajoaaDoor
end
section
namespace Go.Proofs.YtcaoblilkgajoaaDoor
open Go Go.RowKit
theorem OwnN.drew {w : World} {base g n cap : Nat} {l : List Nat} (h : OwnN w base g n cap l) : OwnN w.drew base g n cap l := h
theorem OwnN.drewN {w : World} {base g n cap : Nat} {l : List Nat} (h : OwnN w base g n cap l) (k : Nat) : OwnN (w.drewN k) base g n cap l := h
end Go.Proofs.YtcaoblilkgajoaaDoor
end
section
namespace Go.Proofs.YtcaoblilkgajoaaDoor
open Go Go.RowKit
theorem own_row_ne {W : World} {base b n : Nat} {t : TypeId} {v : Value} {xs vs : List Value} (h : W.ownsRow base 3 1 v n xs) (hr : Row W b t vs) (ht : 3 ≠ t) : some b ≠ v.ownBlock := by
 intro e
 obtain ⟨cs, fr, h3⟩ := ownsRow_block h b e.symm
 rw [hr] at h3
 injection h3 with h3
 injection h3 with _ h4
 exact ht h4.symm
theorem own_setRow {W : World} {base b n : Nat} {t : TypeId} {v : Value} {xs vs : List Value} (h : W.ownsRow base 3 1 v n xs) (hr : Row W b t vs) (ht : 3 ≠ t) (o : Nat) (u : Value) : (W.setCell ⟨b, o, none⟩ u).ownsRow base 3 1 v n xs := by
 have hne := own_row_ne h hr ht
 obtain ⟨A, c, rfl⟩ := owns_slice h
 refine ⟨h.1, ?_⟩
 rcases h.2 with hz | ⟨g, cap, cur, r1, r2, r3, r4⟩
 ·exact .inl hz
 ·refine .inr ⟨g, cap, cur, r1, r2, ?_, r4⟩
  have hgb : g ≠ b := fun e => hne (by rw [r1, ← e]; rfl)
  exact (Below.heap_setCell W ⟨b, o, none⟩ u g hgb).trans r3
section
variable {base : Nat} {w W W' W2 : World} {vS vM v' : Value} {n q : Nat} {lp : Int} {mv : List Value} {ss : List Int} {l : List Nat}
/-- The results written. -/
def st8 (w W : World) (y0 y1 y2 z0 z1 z2 z3 z4 : Value) : World := ((((((((W.setCell ⟨w.heap.size + 1 + 1, 0, none⟩ y0).setCell ⟨w.heap.size + 1 + 1, 1, none⟩ y1).setCell ⟨w.heap.size + 1 + 1, 2, none⟩ y2).setCell ⟨w.heap.size + 1 + 1 + 1, 0, none⟩ z0).setCell ⟨w.heap.size + 1 + 1 + 1, 1, none⟩ z1).setCell ⟨w.heap.size + 1 + 1 + 1, 2, none⟩ z2).setCell ⟨w.heap.size + 1 + 1 + 1, 3, none⟩ z3).setCell ⟨w.heap.size + 1 + 1 + 1, 4, none⟩ z4)
end
/-- The rows of a diagram that are a call's own. -/
structure Own2 (base : Nat) (w : World) (vS vM : Value) (n q : Nat) (ss : List Int) (l : List Nat) : Prop where
 s : w.ownsRow base 3 1 vS n (ss.map (.int .i64))
 o : w.ownsRow base 3 1 vM q (l.map (fun k : Nat => Value.int .i64 k))
 ne : ∀ k, vS.ownBlock = some k → vM.ownBlock ≠ some k
 le : base ≤ w.heap.size
end Go.Proofs.YtcaoblilkgajoaaDoor
end
section
namespace Go.Proofs.YtcaoblilkgajoaaDoor
open Go Go.RowKit
attribute [local go_sem ↓] Go.wp_at_zero Go.wp_at_succ
/-- The edge number k of the triangle at h: its four half-edges. -/
def sb (d : Pl.Dg) (h k : Nat) : Nat := Pl.tn (eo d (th d h k)) 2
def so (d : Pl.Dg) (h k : Nat) : Nat := eo d (th d h k)
def si (d : Pl.Dg) (h k : Nat) : Nat := ei d (th d h k)
def sf (d : Pl.Dg) (h k : Nat) : Nat := Pl.tn (ei d (th d h k)) 2
/-- Where each half-edge moves, after k edges; which ones are outer. -/
def sTo (d : Pl.Dg) (h : Nat) : Nat → List Nat
 | 0 => List.range (4 * d.n)
 | k + 1 => ((sTo d h k).set (sb d h k) (si d h k)).set (sf d h k) (so d h k)
def sOu (d : Pl.Dg) (h : Nat) : Nat → List Bool
 | 0 => List.replicate (4 * d.n) false
 | k + 1 => ((sOu d h k).set (sb d h k) true).set (sf d h k) true
/-- The mates, after u half-edges; after k edges. -/
def sM (d : Pl.Dg) (h : Nat) : Nat → List Nat
 | 0 => d.mt
 | u + 1 => if (sOu d h 3).getD u false = true then jn (sM d h u) ((sTo d h 3).getD u 0) ((sTo d h 3).getD (d.m u) 0) else sM d h u
def sF (d : Pl.Dg) (h : Nat) : Nat → List Nat
 | 0 => sM d h (4 * d.n)
 | k + 1 => jn (sF d h k) (sb d h k) (sf d h k)
open Classical in
noncomputable def sldC (d : Pl.Dg) (h : Nat) : Int := if isT d h then 0 else 6
def sldD (d : Pl.Dg) (h : Nat) : Pl.Dg := ⟨d.sg, sF d h 3, d.lp⟩
theorem nats_len (F : List Nat) : (nats F).length = F.length := by unfold nats; simp
section
variable {w W W' : World} {ge : Nat} {dv mv ev : List Value}
end
theorem row_farS {W : World} {g t : Nat} {vs : List Value} {base : Nat} {v : Value} {n : Nat} {xs : List Value} (h : Row W g t vs) (ht : t ≠ 3) (ho : W.ownsRow base 3 1 v n xs) : some g ≠ v.ownBlock := by
 intro e
 obtain ⟨cs, fr, h3⟩ := ownsRow_block ho g e.symm
 rw [h] at h3
 injection h3 with h3
 injection h3 with _ h4
 exact ht h4
section
variable {w W W2 : World} {ge gt gu gr g1 c1 g2 c2 base m n : Nat} {dv mv ev : List Value} {tl : List Int} {ou : List Bool} {ss : List Value} {lp : Int} {L L' : List Nat}
end
/-- The row that loop 1 fills. -/
def tk (m k : Nat) : List Nat := (List.range m).map (fun j => if j < k then j else 0)
end Go.Proofs.YtcaoblilkgajoaaDoor
end
section
namespace Go.Proofs.YtcaoblilkgajoaaDoor.Pl
variable {N : Nat} {S : Nat → Prop} {r a : Nat → Nat}
/-- No edges: plane. -/
theorem gen_id (h : Hm N S r a) (hid : ∀ x, S x → a x = x) : Gen S r a 0 := by
 obtain ⟨z, hz⟩ := h.gen
 have hz' := hz
 obtain ⟨v, d, k, f, c, h1, h2, h3, h4, h5, rfl⟩ := hz
 have e1 : d = k := h2.unique (h3.congr (fun _ => Iff.rfl) (fun x y hx _ => ⟨fun e => (free_orb (hid x hx) e).symm, fun e => e ▸ Orb.refl a x⟩))
 have hp : ∀ x y, S x → (Orb (phi r a) x y ↔ Orb r x y) := fun x y hx =>
  ⟨fun e => orb_sub h.pb h.rb.eqv (fun z hz => by unfold phi; rw [hid z hz]; exact Orb.step r z) hx e,
   fun e => orb_sub h.rb h.pb.eqv (fun z hz => by have := Orb.step (phi r a) z; unfold phi at this; rw [hid z hz] at this; exact this) hx e⟩
 have e2 : f = v := h4.unique (h1.congr (fun _ => Iff.rfl) (fun x y hx _ => (hp x y hx).symm))
 have e3 : c = v := h5.unique (h1.congr (fun _ => Iff.rfl) (fun x y hx _ => ⟨fun e => orb_con_left a e, fun e => con_sub h h.rb.eqv (fun z _ => Orb.step r z) (fun z hz => by rw [hid z hz]; exact Orb.refl r z) hx e⟩))
 have : (2 * (c : Int) - v + d - k - f) = 0 := by omega
 rw [this] at hz'
 exact hz'
/-- Two maps that agree on the set. -/
theorem Orb.congr {f g : Nat → Nat} (hm : ∀ x, S x → S (f x)) (h : ∀ x, S x → f x = g x) {x y : Nat} (hx : S x) : Orb f x y ↔ Orb g x y := by
 have key : ∀ k, it f k x = it g k x ∧ S (it f k x) := by
  intro k
  induction k with
  | zero => exact ⟨rfl, hx⟩
  | succ k ih => exact ⟨by show f (it f k x) = g (it g k x); rw [← ih.1, h _ ih.2], hm _ ih.2⟩
 constructor
 ·rintro ⟨k, rfl⟩; exact ⟨k, (key k).1.symm⟩
 ·rintro ⟨k, rfl⟩; exact ⟨k, (key k).1⟩
theorem Con.congr {f g f' g' : Nat → Nat} (h1 : ∀ x, S x → S (f x)) (h2 : ∀ x, S x → S (g x)) (e1 : ∀ x, S x → f x = f' x) (e2 : ∀ x, S x → g x = g' x) {x y : Nat} (hx : S x) : Con f g x y ↔ Con f' g' x y := by
 constructor
 ·intro h
  have : Con f' g' x y ∧ S y := by
   induction h with
   | refl => exact ⟨.refl, hx⟩
   | left _ ih => exact ⟨by rw [e1 _ ih.2]; exact ih.1.left, h1 _ ih.2⟩
   | right _ ih => exact ⟨by rw [e2 _ ih.2]; exact ih.1.right, h2 _ ih.2⟩
  exact this.1
 ·intro h
  have : Con f g x y ∧ S y := by
   induction h with
   | refl => exact ⟨.refl, hx⟩
   | left _ ih => exact ⟨by rw [← e1 _ ih.2]; exact ih.1.left, by rw [← e1 _ ih.2]; exact h1 _ ih.2⟩
   | right _ ih => exact ⟨by rw [← e2 _ ih.2]; exact ih.1.right, by rw [← e2 _ ih.2]; exact h2 _ ih.2⟩
  exact this.1
theorem Gen.congr {r' a' : Nat → Nat} {z : Int} (h : Hm N S r a) (e1 : ∀ x, S x → r x = r' x) (e2 : ∀ x, S x → a x = a' x) (hz : Gen S r a z) : Gen S r' a' z := by
 obtain ⟨v, d, k, f, c, h1, h2, h3, h4, h5, rfl⟩ := hz
 exact ⟨v, d, k, f, c, h1.congr (fun _ => Iff.rfl) (fun _ _ hx _ => Orb.congr h.rb.maps e1 hx), h2, h3.congr (fun _ => Iff.rfl) (fun _ _ hx _ => Orb.congr h.ab.maps e2 hx),
  h4.congr (fun _ => Iff.rfl) (fun _ _ hx _ => Orb.congr h.pb.maps (fun x hx => by unfold phi; rw [← e2 x hx, e1 _ (h.ab.maps x hx)]) hx),
  h5.congr (fun _ => Iff.rfl) (fun _ _ hx _ => Con.congr h.rb.maps h.ab.maps e1 e2 hx), rfl⟩
theorem Hm.congr {r' a' : Nat → Nat} (h : Hm N S r a) (e1 : ∀ x, S x → r x = r' x) (e2 : ∀ x, S x → a x = a' x) : Hm N S r' a' :=
 ⟨⟨h.rb.lt, fun x hx => by rw [← e1 x hx]; exact h.rb.maps x hx, fun x y hx hy e => h.rb.inj x y hx hy (by rw [e1 x hx, e1 y hy, e])⟩,
  ⟨h.ab.lt, fun x hx => by rw [← e2 x hx]; exact h.ab.maps x hx, fun x y hx hy e => h.ab.inj x y hx hy (by rw [e2 x hx, e2 y hy, e])⟩,
  fun x hx => by rw [← e2 x hx, ← e2 _ (h.ab.maps x hx)]; exact h.inv x hx⟩
/-- The genus with an edge more, all three cases in one. -/
theorem Gen.edge (h : Hm N S r a) {x y : Nat} {z : Int} (hx : S x) (hy : S y) (hne : x ≠ y) (fx : a x = x) (fy : a y = y) (hz : Gen S r a z) :
 ((Con r a x y → Orb (phi r a) x y) ∧ Gen S r (tr a x y) z) ∨ ((Con r a x y ∧ ¬ Orb (phi r a) x y) ∧ Gen S r (tr a x y) (z + 2)) := by
 by_cases ho : Orb (phi r a) x y
 ·exact .inl ⟨fun _ => ho, Gen.within h hx hy hne fx fy ho hz⟩
 ·by_cases hc : Con r a x y
  ·exact .inr ⟨⟨hc, ho⟩, Gen.handle h hx hy fx fy ho hc hz⟩
  ·exact .inl ⟨fun e => absurd e hc, Gen.between h hx hy fx fy hc hz⟩
/-- A DETOUR: x goes to u, and v, in the same face as u, goes to y: as if x went to y. -/
theorem Gen.detour (h : Hm N S r a) {x y u v : Nat} (hx : S x) (hy : S y) (hu : S u) (hv : S v) (hxy : x ≠ y) (huv : u ≠ v) (fx : a x = x) (fy : a y = y) (fu : a u = u) (fv : a v = v)
 (n1 : ¬ Con r a x u) (n2 : ¬ Con r a y u) (ho : Orb (phi r a) v u) {z : Int} (hz : Gen S r (tr a x y) z) : Gen S r (tr (tr a x u) v y) z := by
 have hvu := orb_phi_con ho
 have n3 : ¬ Con r a v y := fun e => n2 ((h.con_symm hv e).trans hvu)
 have n4 : ¬ Con r a x v := fun e => n1 (e.trans hvu)
 have xu : x ≠ u := fun e => n1 (e ▸ .refl)
 have xv : x ≠ v := fun e => n4 (e ▸ .refl)
 have vy : v ≠ y := fun e => n3 (e ▸ .refl)
 have yu : y ≠ u := fun e => n2 (e ▸ .refl)
 obtain ⟨z0, hz0⟩ := h.gen
 have h1 := h.tr hx hu fx fu
 have g1 := Gen.between h hx hu fx fu n1 hz0
 have fv1 : tr a x u v = v := by rw [tr_ne (Ne.symm xv) (Ne.symm huv), fv]
 have fy1 : tr a x u y = y := by rw [tr_ne (Ne.symm hxy) yu, fy]
 have nf : ¬ Orb (phi r a) x u := fun e => n1 (orb_phi_con e)
 -- connected, and in one face, at the same time
 have ec : Con r (tr a x u) v y ↔ Con r a x y := by
  rw [h.con_tr hx hu fx fu hv]
  constructor
  ·rintro (e | ⟨e1, _⟩ | ⟨_, e2⟩)
   ·exact absurd e n3
   ·exact absurd (h.con_symm hv e1) n4
   ·exact e2
  ·intro e; exact .inr (.inr ⟨hvu, e⟩)
 have eo : Orb (phi r (tr a x u)) v y ↔ Orb (phi r a) x y := by
  rw [phi_tr, h.pb.merge hx hu nf hv]
  constructor
  ·rintro (e | ⟨e1, _⟩ | ⟨_, e2⟩)
   ·exact absurd (orb_phi_con e) n3
   ·exact absurd (h.con_symm hv (orb_phi_con e1)) n4
   ·exact e2
  ·intro e; exact .inr (.inr ⟨ho, e⟩)
 rcases Gen.edge h hx hy hxy fx fy hz0 with ⟨c1, k1⟩ | ⟨c1, k1⟩ <;> rcases Gen.edge h1 hv hy vy fv1 fy1 g1 with ⟨c2, k2⟩ | ⟨c2, k2⟩
 ·rw [hz.unique k1]; exact k2
 ·rw [ec, eo] at c2; exact absurd (c1 c2.1) c2.2
 ·rw [ec, eo] at c2; exact absurd (c2 c1.1) c1.2
 ·rw [hz.unique k1]; exact k2
/-- PUSHED: the other way, where y lies in c's face, or is not connected with it. -/
theorem Flat.push (h : Hm N S r a) {y y' c d p : Nat} (hy : S y) (hy' : S y') (hc : S c) (hd : S d) (yy : y ≠ y') (yc : y ≠ c) (yd : y ≠ d) (cd : c ≠ d) (y'c : y' ≠ c) (y'd : y' ≠ d)
 (fy : a y = y) (fy' : a y' = y') (fc : a c = c) (fd : a d = d) (e1 : phi r a d = p) (e2 : phi r a p = c) (py : p ≠ y) (pc : p ≠ c)
 (hn : Orb (phi r (tr a y y')) c y ∨ ¬ Con r (tr a y y') c y) (hf : Flat S r (tr a y y')) : Flat S r (tr (tr a y c) d y') := by
 have h1 := h.tr hy hc fy fc
 have h2 := h.tr hy hy' fy fy'
 have fd1 : tr a y c d = d := by rw [tr_ne (Ne.symm yd) (Ne.symm cd), fd]
 have fy1 : tr a y c y' = y' := by rw [tr_ne (Ne.symm yy) y'c, fy']
 obtain ⟨f0, k0⟩ := Flat.del h hy hy' yy fy fy' hf
 have odc : Orb (phi r a) d c := ⟨2, by show phi r a (phi r a d) = c; rw [e1, e2]⟩
 have cdc := orb_phi_con odc
 have odc' : Orb (phi r (tr a y c)) d c := by
  refine ⟨2, ?_⟩
  show phi r (tr a y c) (phi r (tr a y c) d) = c
  rw [phi_tr, tr_ne (Ne.symm yd) (Ne.symm cd), e1, tr_ne py pc, e2]
 -- what a holds, the map with (y y') holds
 have up : ∀ {u v}, S u → Con r a u v → Con r (tr a y y') u v := fun hu e => (h.con_tr hy hy' fy fy' hu).2 (.inl e)
 have eyy : Con r (tr a y y') y y' := (h.con_tr hy hy' fy fy' hy).2 (.inr (.inl ⟨.refl, .refl⟩))
 by_cases hcy : Con r (tr a y y') c y
 ·have hocy := hn.resolve_right (fun e => e hcy)
  by_cases hyy : Con r a y y'
  ·-- (i): one orbit of a, parted by (y y')
   have oyy := k0 hyy
   have hno : ¬ Orb (phi r (tr a y y')) y y' := by rw [phi_tr]; exact h.pb.part hy hy' yy oyy
   have ocy : Orb (phi r a) c y := by
    have hg := h.pb.tr hy hy'
    have := (hg.merge hy hy' (h.pb.part hy hy' yy oyy) hc (y := y)).2 (.inl (by rw [← phi_tr]; exact hocy))
    rwa [tr_tr] at this
   have f1 : Flat S r (tr a y c) := Flat.add h hy hc yc fy fc (fun _ => h.pb.symm hc ocy) f0
   refine Flat.add h1 hd hy' (Ne.symm y'd) fd1 fy1 (fun _ => odc'.trans ?_) f1
   -- c and y' in one orbit behind (y c): by the three values
   have key : phi r (tr a y c) = tr (tr (phi r (tr a y y')) y c) c y' := by
    rw [phi_tr, phi_tr]
    funext x
    by_cases x1 : x = y
    ·subst x1
     rw [tr_a, tr_ne yc yy, tr_a, tr_ne (Ne.symm yc) (Ne.symm y'c)]
    ·by_cases x2 : x = c
     ·subst x2
      rw [tr_b, tr_a, tr_ne (Ne.symm yy) y'c, tr_b]
     ·by_cases x3 : x = y'
      ·subst x3
       rw [tr_ne x1 x2, tr_b, tr_b, tr_a]
      ·rw [tr_ne x1 x2, tr_ne x2 x3, tr_ne x1 x2, tr_ne x1 x3]
   have hg2 : Bij N S (tr (phi r (tr a y y')) y c) := h2.pb.tr hy hc
   have hn2 : ¬ Orb (tr (phi r (tr a y y')) y c) c y' := by
    intro e
    have oyc2 : Orb (phi r (tr a y y')) y c := h2.pb.symm hc hocy
    have hn3 := h2.pb.part hy hc yc oyc2
    have := (hg2.merge hy hc hn3 hc (y := y')).2 (.inl e)
    rw [tr_tr] at this
    exact hno (oyc2.trans this)
   rw [key]
   exact hg2.run hy' hn2 hc
  ·have nf : ¬ Orb (phi r a) y y' := fun e => hyy (orb_phi_con e)
   rw [phi_tr, h.pb.merge hy hy' nf hc] at hocy
   rcases hocy with e | ⟨e3, e4⟩ | ⟨e3, _⟩
   ·-- c in y's orbit
    have f1 : Flat S r (tr a y c) := Flat.add h hy hc yc fy fc (fun _ => h.pb.symm hc e) f0
    refine Flat.add h1 hd hy' (Ne.symm y'd) fd1 fy1 (fun hx => ?_) f1
    rw [h.con_tr hy hc fy fc hd] at hx
    have ecy := orb_phi_con e
    rcases hx with x1 | ⟨_, x2⟩ | ⟨_, x2⟩
    ·exact absurd (((h.con_symm hc ecy).trans (h.con_symm hd cdc)).trans x1) hyy
    ·exact absurd ((h.con_symm hc ecy).trans x2) hyy
    ·exact absurd x2 hyy
   ·exact absurd (h.con_symm hy' (orb_phi_con e4)) hyy
   ·-- c in the orbit of y'
    have ncy : ¬ Con r a y c := fun e => hyy (e.trans (orb_phi_con e3))
    have f1 : Flat S r (tr a y c) := Flat.add h hy hc yc fy fc (fun e => absurd e ncy) f0
    refine Flat.add h1 hd hy' (Ne.symm y'd) fd1 fy1 (fun _ => ?_) f1
    rw [phi_tr, h.pb.merge hy hc (fun e => ncy (orb_phi_con e)) hd]
    exact .inl (odc.trans e3)
 ·have ncy : ¬ Con r a y c := fun e => hcy (h2.con_symm hy (up hy e))
  have f1 : Flat S r (tr a y c) := Flat.add h hy hc yc fy fc (fun e => absurd e ncy) f0
  refine Flat.add h1 hd hy' (Ne.symm y'd) fd1 fy1 (fun hx => ?_) f1
  rw [h.con_tr hy hc fy fc hd] at hx
  rw [phi_tr, h.pb.merge hy hc (fun e => ncy (orb_phi_con e)) hd]
  rcases hx with x1 | ⟨x1, _⟩ | ⟨_, x2⟩
  ·have : Con r (tr a y y') c y := (up hc (h.con_symm hd cdc)).trans ((up hd x1).trans (h2.con_symm hy eyy))
   exact absurd this hcy
  ·exact absurd ((h.con_symm hd x1).trans cdc) ncy
  ·exact .inr (.inr ⟨odc, k0 x2⟩)
end Go.Proofs.YtcaoblilkgajoaaDoor.Pl
end
