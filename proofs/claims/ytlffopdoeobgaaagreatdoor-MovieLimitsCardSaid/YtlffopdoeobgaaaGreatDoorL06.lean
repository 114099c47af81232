/-
  The texts Wv, Wi, Xf, Xj, Push, Sld, Knk in one.
-/
import Derived.Test.YtlffopdoeobgaaaGreatDoorL05
import Derived.Test.YtlffopdoeobgaaaGreatDoorL02
import Derived.Test.YtlffopdoeobgaaaGreatDoorL04
import Derived.Deep.DeepCutAuto
import Derived.RegionTactic
import Derived.Test.YtlffopdoeobgaaaGreatDoorShelf
import Derived.StillTailTactics
import Derived.Deep.CutBlock
import Derived.Test.YtlffopdoeobgaaaGreatDoorL01
set_option linter.unusedVariables false
set_option linter.unusedSimpArgs false

section
namespace Go.Proofs.YtlffopdoeobgaaaGreatDoor
open Go Go.RowKit
def Gl (ps : List Int) (k i : Nat) : List Nat := (List.range k).filter (fun c => decide (Pl.pv ps c = (i : Int)))
theorem Gl_succ (ps : List Int) (k i : Nat) : Gl ps (k + 1) i = Gl ps k i ++ if Pl.pv ps k = (i : Int) then [k] else [] := by
  unfold Gl
  rw [List.range_succ, List.filter_append]
  by_cases h : Pl.pv ps k = (i : Int) <;> simp [List.filter_cons, h]
theorem Gl_len (ps : List Int) (k i : Nat) : (Gl ps k i).length ≤ k := by
  unfold Gl
  have := List.length_filter_le (fun c => decide (Pl.pv ps c = (i : Int))) (List.range k)
  simpa using this
def gv (vs : List Value) (i : Nat) : Value := vs.getD i (.slice none 0 0)
structure Grp (w : World) (g P : Nat) (ps : List Int) (k : Nat) (vs : List Value) (W : World) : Prop where
  len : vs.length = P
  row : Row W g 22 vs
  own : ∀ i, i < P → W.ownsRow (g + 1) 3 1 (gv vs i) (Gl ps k i).length ((Gl ps k i).map (fun k : Nat => Value.int .i64 k))
  ne : ∀ i j, i < P → j < P → i ≠ j → ∀ b, (gv vs i).ownBlock = some b → (gv vs j).ownBlock ≠ some b
  bel : Below w.heap.size w W
  lo : w.heap.size ≤ g
theorem Grp.below {w : World} {g P : Nat} {ps : List Int} {k : Nat} {vs : List Value} {W W' : World} (h : Grp w g P ps k vs W) (hb : Below W.heap.size W W') : Grp w g P ps k vs W' :=
  ⟨h.len, h.row.below hb, fun i hi => own_keep (h.own i hi) hb (Nat.le_refl _), h.ne, h.bel.trans (hb.mono h.bel.size), h.lo⟩
theorem gv_set {vs : List Value} {q : Nat} (hq : q < vs.length) (v : Value) (i : Nat) : gv (vs.set q v) i = if i = q then v else gv vs i := by
  unfold gv
  rw [List.getD_eq_getElem?_getD, List.getD_eq_getElem?_getD, List.getElem?_set]
  by_cases h : q = i
  · subst h; simp [hq]
  · rw [if_neg h, if_neg (fun e => h e.symm)]
theorem Grp.put {w : World} {g P : Nat} {ps : List Int} {k q : Nat} {vs : List Value} {W W2 : World} {v' : Value} {g' : Nat} (h : Grp w g P ps k vs W) (hq : q < P) (hp : Pl.pv ps k = (q : Int))
    (own : W2.ownsRow (g + 1) 3 1 v' ((Gl ps k q).length + 1) ((Gl ps k q).map (fun k : Nat => Value.int .i64 k) ++ [.int .i64 (k : Nat)])) (gr : W.grownBy W2 (gv vs q).ownBlock) (hv : v'.ownBlock = some g') (hat : (gv vs q).ownBlock = some g' ∨ g' = W.heap.size) :
    Grp w g P ps (k + 1) (vs.set q v') (W2.setCell ⟨g, q, none⟩ v') := by
  have hql : q < vs.length := by rw [h.len]; exact hq
  have hlt := fun i hi => (h.own i hi).lt
  refine ⟨by rw [List.length_set, h.len], (h.row.grown gr ?_).set q v', fun i hi => ?_, fun i j hi hj hij b e1 e2 => ?_, (h.bel.grown gr h.bel.size (fun b e => by have := (hlt q hq b e).1; have := h.lo; omega)).setCell h.lo _, h.lo⟩
  · intro e
    have := (hlt q hq g e.symm).1
    omega
  · rw [gv_set hql, Gl_succ]
    by_cases e : i = q
    · subst e
      rw [if_pos rfl, if_pos hp]
      refine ownsRow_setCell_below ?_ (by show g < g + 1; omega) _
      simpa using own
    · rw [if_neg e, if_neg (by omega), List.append_nil]
      refine ownsRow_setCell_below ((h.own i hi).kept gr ?_) (by show g < g + 1; omega) _
      cases hm : (gv vs i).ownBlock with
      | none => exact .inl rfl
      | some b => exact .inr (fun e' => h.ne i q hi hq e b hm e'.symm)
  · rw [gv_set hql] at e1 e2
    by_cases ei : i = q
    · rw [if_pos ei, hv] at e1
      injection e1 with e1
      rw [if_neg (by omega)] at e2
      rcases hat with e | e
      · exact h.ne q j hq hj (by omega) g' e (by rw [e2, e1])
      · have := (hlt j hj b e2).2
        omega
    · rw [if_neg ei] at e1
      by_cases ej : j = q
      · rw [if_pos ej, hv] at e2
        injection e2 with e2
        rcases hat with e | e
        · exact h.ne i q hi hq ei g' (by rw [e1, e2]) e
        · have := (hlt i hi b e1).2
          omega
      · rw [if_neg ej] at e2
        exact h.ne i j hi hj hij b e1 e2
def GraphPost (d : Pl.Dg) (w : World) (e : Ending) (w' : World) : Prop :=
  ∃ (A : Option Addr) (c P : Nat) (ps : List Int) (vs : List Value), e = .returned (.slice A P c) ∧ P ≤ d.n ∧ Pl.LB d ps P ∧ (∀ a, a < d.n → 0 ≤ Pl.pv ps a) ∧ RowT w' 22 A P vs ∧ Vs w' vs ((List.range P).map (Gl ps d.n)) ∧ Below w.heap.size w w' ∧ Far w.heap.size vs
theorem run_rows (n : Nat) (hn : n ≤ 100000) (w : World) : (Instr.makeSlice 75 (.int .i64 (n : Int)) (.int .i64 (n : Int))).run Tryz.prog w = .ok (.slice (some ⟨w.heap.size, 0, none⟩) n n) (w.alloc (.cells (Array.replicate n (Value.slice none 0 0)) 22)) := by
  obtain ⟨i0, hi, hz0, hz1, hz2⟩ := info_parts rowInfo
  have := run_make (P := Tryz.prog) w 75 22 i0 (.slice none 0 0) Tryz.underlying75 hi hz0 .i64 .i64 n n (by omega) (Int.le_refl _) (by rw [hz2]; omega) (by omega)
  rw [hz1, Nat.mul_one, Int.toNat_natCast, show madeCells (Value.cells (.slice none 0 0)) n = (List.replicate n (.slice none 0 0)).toArray from made_rep _ _] at this
  exact this
theorem Row.gv {W : World} {g : Nat} {t : TypeId} {vs : List Value} (h : Row W g t vs) {q : Nat} (hq : q < vs.length) : W.cell? ⟨g, q, none⟩ = some (gv vs q) := by
  rw [h.cell hq]
  unfold Go.Proofs.YtlffopdoeobgaaaGreatDoor.gv
  rw [List.getD_eq_getElem?_getD, List.getElem?_eq_getElem hq]; rfl
theorem range_get {P i : Nat} {l : List Nat} {f : Nat → List Nat} (e : ((List.range P).map f)[i]? = some l) : i < P ∧ l = f i := by
  rw [List.getElem?_map] at e
  by_cases h : i < P
  · rw [List.getElem?_range h] at e
    injection e with e
    exact ⟨h, e.symm⟩
  · rw [List.getElem?_eq_none (by simpa using Nat.le_of_not_lt h)] at e
    cases e
theorem Grp.vs {w : World} {g P : Nat} {ps : List Int} {k : Nat} {vs : List Value} {W : World} (h : Grp w g P ps k vs W) : Vs W vs ((List.range P).map (Gl ps k)) := by
  refine ⟨by simp [h.len], fun i l e => ?_⟩
  obtain ⟨hi, rfl⟩ := range_get e
  have ho := h.own i hi
  obtain ⟨A, c, e2⟩ := owns_slice ho
  refine ⟨Go.Proofs.YtlffopdoeobgaaaGreatDoor.gv vs i, ?_, A, c, e2, by rw [e2] at ho; exact own_rowT ho⟩
  unfold Go.Proofs.YtlffopdoeobgaaaGreatDoor.gv
  rw [List.getD_eq_getElem?_getD, List.getElem?_eq_getElem (by rw [h.len]; exact hi)]; rfl
theorem Grp.far {w : World} {g P : Nat} {ps : List Int} {k : Nat} {vs : List Value} {W : World} (h : Grp w g P ps k vs W) : Far w.heap.size vs := fun v hv b hb => by
  obtain ⟨i, hi, e⟩ := List.mem_iff_getElem.1 hv
  have h1 : Go.Proofs.YtlffopdoeobgaaaGreatDoor.gv vs i = v := by unfold Go.Proofs.YtlffopdoeobgaaaGreatDoor.gv; rw [List.getD_eq_getElem?_getD, List.getElem?_eq_getElem hi]; exact e
  have h2 := (h.own i (by rw [← h.len]; exact hi)).lt b (by rw [h1]; exact hb)
  have := h.lo
  omega
set_option maxRecDepth 100000 in
set_option maxHeartbeats 2000000 in
theorem graph_any (d : Pl.Dg) (hd : Pl.Valid d) (A B : Option Addr) (cp cq m : Nat) (w : World) (hm : m = 4 * d.n) (hg : DgAt w A B d) :
    Calls Tryz.prog 95 #[.agg #[.slice A d.n cp, .slice B m cq, .int .i64 d.lp]] w (GraphPost d w) := by
  have hn := hd.wf.few
  have HM := hide hm
  have HG := hide hg
  have B0 := hide (show Below w.heap.size w (w.alloc (.cells #[.slice A d.n cp, .slice B m cq, .int .i64 d.lp] 24)) from (Below.refl _ _).alloc (Nat.le_refl _) _)
  have X0 := hide (show Row (w.alloc (.cells #[.slice A d.n cp, .slice B m cq, .int .i64 d.lp] 24)) w.heap.size 24 [.slice A d.n cp, .slice B m cq, .int .i64 d.lp] from Row.new w _ [_, _, _])
  clear hg
  subst hm
  go_enter Tryz.func95, Tryz.ntmps95
  go_wp2_with fail
  refine (valid_yes d hd A B cp cq _ _ rfl (HG.out.keep B0.out)).mono ?_
  rintro e w1 ⟨rfl, hb1⟩
  have B1 := hide (B0.out.trans (hb1.mono B0.out.size))
  have X1 := hide (X0.out.below hb1)
  obtain ⟨f0, f1, f2, f3⟩ := box3 X1.out
  clear hb1
  go_wp2_with fail
  refine (label_any d hd.wf A B cp cq _ _ (HG.out.keep B1.out)).mono ?_
  rintro e w2 ⟨ps, P, gp, rfl, hlb, hall, hgp, hir, hb2⟩
  have HLB := hide hlb
  have HALL := hide hall
  have hPn := hlb.le
  have HIR := hide hir
  have B2 := hide (B1.out.trans (hb2.mono B1.out.size))
  have hgps := hir.lt
  have hps : ps.length = d.n := hlb.len
  have HPS := hide hps
  clear hlb hall hir hb2 f0 f1 f2 f3 hps
  have hmk := fun W : World => run_rows P (by omega) W
  have H0 := hide (show Grp w w2.heap.size P ps 0 (List.replicate P (.slice none 0 0)) (w2.alloc (.cells (Array.replicate P (Value.slice none 0 0)) 22)) from by
    have hgv : ∀ i, gv (List.replicate P (.slice none 0 0)) i = .slice none 0 0 := fun i => by
      unfold Go.Proofs.YtlffopdoeobgaaaGreatDoor.gv
      rw [List.getD_eq_getElem?_getD, List.getElem?_replicate]
      split <;> rfl
    refine ⟨by simp, ?_, fun i hi => ?_, fun i j hi hj hij b e => ?_, B2.out.alloc B2.out.size _, B2.out.size⟩
    · have := Row.new w2 22 (List.replicate P (.slice none 0 0))
      simpa using this
    · rw [hgv]; exact World.ownsRow_nil _ _ _ _
    · rw [hgv] at e; simp [Value.ownBlock] at e)
  have HI0 := hide (show IRow (w2.alloc (.cells (Array.replicate P (Value.slice none 0 0)) 22)) gp ps from Row.alloc HIR.out _)
  go_wp2
  clear hmk
  obtain ⟨gg, hgg⟩ : ∃ gg, gg = w2.heap.size := ⟨_, rfl⟩
  rw [← hgg] at H0 hgps ⊢
  have HGG := hide hgg
  go_loopg [20] d.n (fun g i wx => ∃ (k : Nat) (vs : List Value), k + g = d.n ∧ i = .int .i64 k ∧ Grp w gg P ps k vs wx ∧ IRow wx gp ps)
  case atStart => exact ⟨0, _, by omega, rfl, by have := H0.out; rw [hgg] at this ⊢; exact this, HI0.out⟩
  case round =>
    clear H0 HI0 HIR hgg HGG
    obtain ⟨k, vs, hkg, rfl, hgr, hir⟩ := hrel
    have HKG := hide hkg
    have hkn : k ≤ d.n := by omega
    have HGR := hide hgr
    have HIR := hide hir
    have hsz := hgr.row.lt
    clear hkg hgr hir
    by_cases hlt : k < d.n
    · have c1 := HIR.out.cell (i := k) (by rw [HPS.out]; exact hlt)
      have h0 := HALL.out k hlt
      have h1 := (HLB.out.lo k hlt).2
      obtain ⟨q, hq⟩ := Int.eq_ofNat_of_zero_le h0
      rw [hq] at c1 h1
      have HQ := hide hq
      clear hq h0
      have hqP : q < P := by omega
      have hql : q < vs.length := by rw [HGR.out.len]; exact hqP
      have c2 := HGR.out.row.gv hql
      have fr2 := HGR.out.row.free q
      obtain ⟨vq, hvq⟩ : ∃ v, v = gv vs q := ⟨_, rfl⟩
      rw [← hvq] at c2
      have HVQ := hide hvq
      clear hvq
      have iq : (0 : Int) ≤ (q : Int) := by omega
      have jq : (q : Int) < (P : Int) := by omega
      have hgl := Gl_len ps k q
      obtain ⟨i0, hi0, hz0, hz1, hz2⟩ := info_parts intInfo
      have OQ := hide (show wr.ownsRow (gg + 1) 3 1 vq (Gl ps k q).length ((Gl ps k q).map (fun k : Nat => Value.int .i64 k)) by rw [HVQ.out]; exact HGR.out.own q hqP)
      go_wp2_with (at_builtin; refine wpList_append_lies _ (by rfl) _ _ 22 (by rfl) (gg + 1) 3 i0 (.int .i64 0) 1 8 Tryz.underlying22 hi0 hz0 hz1 hz2 rfl (by omega) vq (Gl ps k q).length _ (by rfl) (OQ.out.alloc _) ⟨wr.heap.size, 0, none⟩ 1 1 [.int .i64 (k : Nat)] (by rfl) (by rfl) (one_news wr (.int .i64 (k : Nat))) (by simp [Value.oneCell']) (by omega) (by unfold maxLen; omega) (by omega) (by simp; omega) (wr.heap.size + 1) (by simp) ?_; intro g3 c3 w3 own3 grow3 at3 lt3; have hrow3 := Row.grown (Row.alloc HGR.out.row (.cells #[.int .i64 (k : Nat)] 3)) grow3 (by intro e; have := (OQ.out.lt gg e.symm).1; omega); have cq3 := hrow3.gv hql; have fq3 := hrow3.free q; have OWN3 := hide own3; have GR3 := hide grow3; have AT3 := hide at3; have HROW3 := hide hrow3; clear own3 grow3 at3 hrow3)
      go_roundg (gk - 1)
      case measure => have := HKG.out; omega
      case rel =>
        refine ⟨k + 1, vs.set q (.slice (some ⟨g3, 0, none⟩) ((Gl ps k q).length + 1) c3), by have := HKG.out; omega, by go_num, ?_, ?_⟩
        · exact Grp.put (HGR.out.below ((Below.refl _ _).alloc (Nat.le_refl _) (.cells #[.int .i64 (k : Nat)] 3))) hqP HQ.out OWN3.out (by rw [← HVQ.out]; exact GR3.out) rfl (by rw [← HVQ.out]; simpa using AT3.out)
        · refine Row.other (Row.grown (Row.alloc HIR.out _) GR3.out ?_) (by show gp ≠ gg; omega) _
          intro e
          have := (OQ.out.lt gp e.symm).1
          omega
    · go_wp2
      go_ret
      obtain rfl : k = d.n := by omega
      refine ⟨_, _, P, ps, vs, rfl, hPn, HLB.out, HALL.out, ?_, HGR.out.vs, HGR.out.bel, HGR.out.far⟩
      refine ⟨HGR.out.len, fun _ => ⟨gg, 0, vs.toArray, (0, 0), rfl, HGR.out.row, fun j u hu => ?_⟩⟩
      rw [Nat.zero_add]
      simpa using hu
end Go.Proofs.YtlffopdoeobgaaaGreatDoor
end

section
namespace Go.Proofs.YtlffopdoeobgaaaGreatDoor
open Go.RowKit
def inR (n : Nat) (m : Mv) : Prop :=
  if m.kind = 1 then -1 ≤ m.x ∧ m.x < 4 * n ∧ m.y = 0 ∧ (m.sign = 1 ∨ m.sign = -1)
  else if m.kind = 2 then 0 ≤ m.x ∧ m.x < n ∧ m.y = 0 ∧ m.sign = 0 ∧ m.over = false
  else if m.kind = 4 then 0 ≤ m.x ∧ m.x < m.y ∧ m.y < n ∧ m.sign = 0 ∧ m.over = false
  else if m.kind = 5 then 0 ≤ m.x ∧ m.x < 4 * n ∧ m.y = 0 ∧ m.sign = 0 ∧ m.over = false
  else -2 ≤ m.x ∧ m.x < 4 * n ∧ -2 ≤ m.y ∧ m.y < 4 * n ∧ (if m.x ≠ m.y then m.sign = 0 else if m.x < 0 then m.sign = 0 ∨ m.sign = 1 else m.sign = 1 ∨ m.sign = -1)
def InPost (n : Nat) (m : Mv) (w : World) (e : Ending) (w' : World) : Prop := e = .returned (.bool (Pl.vb (inR n m))) ∧ Below w.heap.size w w'
theorem in_ret {p : Prop} {b : Bool} (h : b = true ↔ p) : Ending.returned (.bool b) = .returned (.bool (Pl.vb p)) := by
  refine ret_bool ?_
  rw [Bool.eq_iff_iff, Pl.vb_iff, h]
set_option maxRecDepth 100000 in
set_option maxHeartbeats 1000000 in
theorem inRange_1 (n : Nat) (x y s : Int) (o : Bool) (w : World) (hn : n ≤ 1000) :
    Calls Tryz.prog 45 #[.int .i64 (n : Int), (Mv.mk 1 x y s o).v] w (InPost n ⟨1, x, y, s, o⟩ w) := by
  unfold Mv.v
  by_cases hs : s = 0
  · subst hs
    cases o
    all_goals
      go_enter Tryz.func45, Tryz.ntmps45
      go_wp2
      all_goals
        go_ret
        refine ⟨in_ret ?_, (Below.refl _ _).alloc (Nat.le_refl _) _⟩
        unfold inR
        (try simp only [beq_iff_eq, beq_eq_false_iff_ne, ne_eq, bne_iff_ne, decide_eq_true_eq, decide_eq_false_iff_not] at *); (first | (simp; done) | (simp; omega) | omega | (simp_all; done) | (simp_all; omega))
  · have t0 : (s == 0) = false := by simpa using hs
    go_enter Tryz.func45, Tryz.ntmps45
    go_wp2
    all_goals
      go_ret
      refine ⟨in_ret ?_, (Below.refl _ _).alloc (Nat.le_refl _) _⟩
      unfold inR
      (try simp only [beq_iff_eq, beq_eq_false_iff_ne, ne_eq, bne_iff_ne, decide_eq_true_eq, decide_eq_false_iff_not] at *); (first | (simp; done) | (simp; omega) | omega | (simp_all; done) | (simp_all; omega))
set_option maxRecDepth 100000 in
set_option maxHeartbeats 1000000 in
theorem inRange_2 (n : Nat) (x y s : Int) (o : Bool) (w : World) (hn : n ≤ 1000) :
    Calls Tryz.prog 45 #[.int .i64 (n : Int), (Mv.mk 2 x y s o).v] w (InPost n ⟨2, x, y, s, o⟩ w) := by
  unfold Mv.v
  by_cases hs : s = 0
  · subst hs
    cases o
    all_goals
      go_enter Tryz.func45, Tryz.ntmps45
      go_wp2
      all_goals
        go_ret
        refine ⟨in_ret ?_, (Below.refl _ _).alloc (Nat.le_refl _) _⟩
        unfold inR
        (try simp only [beq_iff_eq, beq_eq_false_iff_ne, ne_eq, bne_iff_ne, decide_eq_true_eq, decide_eq_false_iff_not] at *); (first | (simp; done) | (simp; omega) | omega | (simp_all; done) | (simp_all; omega))
  · have t0 : (s == 0) = false := by simpa using hs
    go_enter Tryz.func45, Tryz.ntmps45
    go_wp2
    all_goals
      go_ret
      refine ⟨in_ret ?_, (Below.refl _ _).alloc (Nat.le_refl _) _⟩
      unfold inR
      (try simp only [beq_iff_eq, beq_eq_false_iff_ne, ne_eq, bne_iff_ne, decide_eq_true_eq, decide_eq_false_iff_not] at *); (first | (simp; done) | (simp; omega) | omega | (simp_all; done) | (simp_all; omega))
end Go.Proofs.YtlffopdoeobgaaaGreatDoor
end

section
namespace Go.Proofs.YtlffopdoeobgaaaGreatDoor
open Go Go.RowKit
attribute [local go_sem ↓] Go.wp_at_zero Go.wp_at_succ
def ResC (c : Int) (r : Pl.Dg) (mv : Mv) (w : World) (e : Ending) (w' : World) : Prop := (c ≠ 0 → ResErr c e) ∧ (c = 0 → ResOk r mv e w') ∧ Below w.heap.size w w'
theorem ResOk.split {r : Pl.Dg} {mv : Mv} {e : Ending} {w' : World} (h : ResOk r mv e w') : ∃ (A B : Option Addr) (c1 c2 : Nat) (k x y s : Int) (o : Bool), mv = ⟨k, x, y, s, o⟩ ∧ e = .returned (.tuple #[.agg #[.slice A r.n c1, .slice B (4 * r.n) c2, .int .i64 r.lp], .agg #[.int .i64 k, .int .i64 x, .int .i64 y, .int .i64 s, .bool o], .int .i64 0]) ∧ DgT w' A B r := by
  obtain ⟨A, B, c1, c2, he, hd⟩ := h
  obtain ⟨k, x, y, s, o⟩ := mv
  exact ⟨A, B, c1, c2, k, x, y, s, o, rfl, he, hd⟩
theorem ResErr.split {c : Int} {e : Ending} (h : ResErr c e) : e = .returned (.tuple #[.agg #[.slice none 0 0, .slice none 0 0, .int .i64 0], .agg #[.int .i64 0, .int .i64 0, .int .i64 0, .int .i64 0, .bool false], .int .i64 c]) := h
theorem DgT.store {w : World} {A B : Option Addr} {d : Pl.Dg} {g o : Nat} {t : TypeId} {vs : List Value} (h : DgT w A B d) (hr : Row w g t vs) (hne : 3 ≠ t) (v : Value) : DgT (w.setCell ⟨g, o, none⟩ v) A B d := ⟨h.s.store hr hne v, h.m.store hr hne v⟩
structure AB (w : World) (gr gi : Nat) (dv mv : List Value) (W : World) : Prop where
  d : Row W w.heap.size 24 dv
  m : Row W (w.heap.size + 1) 36 mv
  rd : ∃ vs, Row W (w.heap.size + 1 + 1) 24 vs ∧ vs.length = 3
  rm : ∃ us, Row W (w.heap.size + 1 + 1 + 1) 36 us ∧ us.length = 5
  r : ∃ vs, Row W gr 24 vs ∧ vs.length = 3
  i : ∃ us, Row W gi 36 us ∧ us.length = 5
  bel : Below w.heap.size w W
  lr : w.heap.size + 1 + 1 + 1 < gr
  li : w.heap.size + 1 + 1 + 1 < gi
  ne : gr ≠ gi
section
variable {w W W' : World} {gr gi : Nat} {dv mv : List Value}
theorem AB.drew (h : AB w gr gi dv mv W) : AB w gr gi dv mv W.drew := ⟨h.d, h.m, h.rd, h.rm, h.r, h.i, h.bel.drew, h.lr, h.li, h.ne⟩
theorem AB.below (h : AB w gr gi dv mv W) (hb : Below W.heap.size W W') : AB w gr gi dv mv W' :=
  let ⟨vs, r1, l1⟩ := h.rd
  let ⟨us, r2, l2⟩ := h.rm
  let ⟨xs, r3, l3⟩ := h.r
  let ⟨ys, r4, l4⟩ := h.i
  ⟨h.d.below hb, h.m.below hb, ⟨vs, r1.below hb, l1⟩, ⟨us, r2.below hb, l2⟩, ⟨xs, r3.below hb, l3⟩, ⟨ys, r4.below hb, l4⟩, h.bel.trans (hb.mono h.bel.size), h.lr, h.li, h.ne⟩
theorem AB.setD (h : AB w gr gi dv mv W) (o : Nat) (v : Value) : AB w gr gi dv mv (W.setCell ⟨w.heap.size + 1 + 1, o, none⟩ v) :=
  have a1 := h.lr
  have a2 := h.li
  have a3 := h.ne
  let ⟨vs, r1, l1⟩ := h.rd
  let ⟨us, r2, l2⟩ := h.rm
  let ⟨xs, r3, l3⟩ := h.r
  let ⟨ys, r4, l4⟩ := h.i
  ⟨h.d.other (by show _ ≠ w.heap.size + 1 + 1; omega) v, h.m.other (by show _ ≠ w.heap.size + 1 + 1; omega) v, ⟨vs.set o v, r1.set o v, by rw [List.length_set, l1]⟩, ⟨us, r2.other (by show _ ≠ w.heap.size + 1 + 1; omega) v, l2⟩, ⟨xs, r3.other (by show _ ≠ w.heap.size + 1 + 1; omega) v, l3⟩, ⟨ys, r4.other (by show _ ≠ w.heap.size + 1 + 1; omega) v, l4⟩, h.bel.setCell (by show _ ≤ w.heap.size + 1 + 1; omega) v, h.lr, h.li, h.ne⟩
theorem AB.setM (h : AB w gr gi dv mv W) (o : Nat) (v : Value) : AB w gr gi dv mv (W.setCell ⟨w.heap.size + 1 + 1 + 1, o, none⟩ v) :=
  have a1 := h.lr
  have a2 := h.li
  have a3 := h.ne
  let ⟨vs, r1, l1⟩ := h.rd
  let ⟨us, r2, l2⟩ := h.rm
  let ⟨xs, r3, l3⟩ := h.r
  let ⟨ys, r4, l4⟩ := h.i
  ⟨h.d.other (by show _ ≠ w.heap.size + 1 + 1 + 1; omega) v, h.m.other (by show _ ≠ w.heap.size + 1 + 1 + 1; omega) v, ⟨vs, r1.other (by show _ ≠ w.heap.size + 1 + 1 + 1; omega) v, l1⟩, ⟨us.set o v, r2.set o v, by rw [List.length_set, l2]⟩, ⟨xs, r3.other (by show _ ≠ w.heap.size + 1 + 1 + 1; omega) v, l3⟩, ⟨ys, r4.other (by show _ ≠ w.heap.size + 1 + 1 + 1; omega) v, l4⟩, h.bel.setCell (by show _ ≤ w.heap.size + 1 + 1 + 1; omega) v, h.lr, h.li, h.ne⟩
theorem AB.setR (h : AB w gr gi dv mv W) (o : Nat) (v : Value) : AB w gr gi dv mv (W.setCell ⟨gr, o, none⟩ v) :=
  have a1 := h.lr
  have a2 := h.li
  have a3 := h.ne
  let ⟨vs, r1, l1⟩ := h.rd
  let ⟨us, r2, l2⟩ := h.rm
  let ⟨xs, r3, l3⟩ := h.r
  let ⟨ys, r4, l4⟩ := h.i
  ⟨h.d.other (by show _ ≠ gr; omega) v, h.m.other (by show _ ≠ gr; omega) v, ⟨vs, r1.other (by show _ ≠ gr; omega) v, l1⟩, ⟨us, r2.other (by show _ ≠ gr; omega) v, l2⟩, ⟨xs.set o v, r3.set o v, by rw [List.length_set, l3]⟩, ⟨ys, r4.other (by show _ ≠ gr; omega) v, l4⟩, h.bel.setCell (by show _ ≤ gr; omega) v, h.lr, h.li, h.ne⟩
theorem AB.setI (h : AB w gr gi dv mv W) (o : Nat) (v : Value) : AB w gr gi dv mv (W.setCell ⟨gi, o, none⟩ v) :=
  have a1 := h.lr
  have a2 := h.li
  have a3 := h.ne
  let ⟨vs, r1, l1⟩ := h.rd
  let ⟨us, r2, l2⟩ := h.rm
  let ⟨xs, r3, l3⟩ := h.r
  let ⟨ys, r4, l4⟩ := h.i
  ⟨h.d.other (by show _ ≠ gi; omega) v, h.m.other (by show _ ≠ gi; omega) v, ⟨vs, r1.other (by show _ ≠ gi; omega) v, l1⟩, ⟨us, r2.other (by show _ ≠ gi; omega) v, l2⟩, ⟨xs, r3.other (by show _ ≠ gi; omega) v, l3⟩, ⟨ys.set o v, r4.set o v, by rw [List.length_set, l4]⟩, h.bel.setCell (by show _ ≤ gi; omega) v, h.lr, h.li, h.ne⟩
end
structure AD (w : World) (gr gi : Nat) (dv mv : List Value) (A B : Option Addr) (r : Pl.Dg) (W : World) : Prop where
  b : AB w gr gi dv mv W
  t : DgT W A B r
section
variable {w W W' : World} {gr gi : Nat} {dv mv : List Value} {A B : Option Addr} {r : Pl.Dg}
theorem AD.drew (h : AD w gr gi dv mv A B r W) : AD w gr gi dv mv A B r W.drew := ⟨h.b.drew, ⟨h.t.s, h.t.m⟩⟩
theorem AD.setD (h : AD w gr gi dv mv A B r W) (o : Nat) (v : Value) : AD w gr gi dv mv A B r (W.setCell ⟨w.heap.size + 1 + 1, o, none⟩ v) := ⟨h.b.setD o v, let ⟨_, r1, _⟩ := h.b.rd; h.t.store r1 (by decide) v⟩
theorem AD.setM (h : AD w gr gi dv mv A B r W) (o : Nat) (v : Value) : AD w gr gi dv mv A B r (W.setCell ⟨w.heap.size + 1 + 1 + 1, o, none⟩ v) := ⟨h.b.setM o v, let ⟨_, r1, _⟩ := h.b.rm; h.t.store r1 (by decide) v⟩
theorem AD.setR (h : AD w gr gi dv mv A B r W) (o : Nat) (v : Value) : AD w gr gi dv mv A B r (W.setCell ⟨gr, o, none⟩ v) := ⟨h.b.setR o v, let ⟨_, r1, _⟩ := h.b.r; h.t.store r1 (by decide) v⟩
theorem AD.setI (h : AD w gr gi dv mv A B r W) (o : Nat) (v : Value) : AD w gr gi dv mv A B r (W.setCell ⟨gi, o, none⟩ v) := ⟨h.b.setI o v, let ⟨_, r1, _⟩ := h.b.i; h.t.store r1 (by decide) v⟩
end
theorem cells3 {W : World} {g : Nat} {t : TypeId} {vs : List Value} (h : Row W g t vs) (l : vs.length = 3) : W.cell? ⟨g, 0, none⟩ = some (cv W ⟨g, 0, none⟩) ∧ W.cell? ⟨g, 1, none⟩ = some (cv W ⟨g, 1, none⟩) ∧ W.cell? ⟨g, 2, none⟩ = some (cv W ⟨g, 2, none⟩) ∧ ∀ o, W.frozen? ⟨g, o, none⟩ = false :=
  ⟨cv_some (h.cell (i := 0) (by omega)), cv_some (h.cell (i := 1) (by omega)), cv_some (h.cell (i := 2) (by omega)), h.free⟩
theorem cells5 {W : World} {g : Nat} {t : TypeId} {vs : List Value} (h : Row W g t vs) (l : vs.length = 5) : W.cell? ⟨g, 0, none⟩ = some (cv W ⟨g, 0, none⟩) ∧ W.cell? ⟨g, 1, none⟩ = some (cv W ⟨g, 1, none⟩) ∧ W.cell? ⟨g, 2, none⟩ = some (cv W ⟨g, 2, none⟩) ∧ W.cell? ⟨g, 3, none⟩ = some (cv W ⟨g, 3, none⟩) ∧ W.cell? ⟨g, 4, none⟩ = some (cv W ⟨g, 4, none⟩) ∧ ∀ o, W.frozen? ⟨g, o, none⟩ = false :=
  ⟨cv_some (h.cell (i := 0) (by omega)), cv_some (h.cell (i := 1) (by omega)), cv_some (h.cell (i := 2) (by omega)), cv_some (h.cell (i := 3) (by omega)), cv_some (h.cell (i := 4) (by omega)), h.free⟩
theorem curl_m (d : Pl.Dg) (hd : Pl.Wf d) (A B : Option Addr) (cp cq m : Nat) (k x y sg : Int) (ov : Bool) (w : World) (hm : m = 4 * d.n) (hg : DgAt w A B d) (hx : -1 ≤ x ∧ x < 4 * d.n) (hsg : sg = 1 ∨ sg = -1) :
    Calls Tryz.prog 46 #[.agg #[.slice A d.n cp, .slice B m cq, .int .i64 d.lp], .agg #[.int .i64 k, .int .i64 x, .int .i64 y, .int .i64 sg, .bool ov]] w (CurlPost d x sg ov w) := by
  subst hm; exact curl_any d hd A B cp cq k x y sg ov w hg hx hsg
set_option maxRecDepth 100000 in
set_option maxHeartbeats 4000000 in
theorem apply_1 (d : Pl.Dg) (hd : Pl.Valid d) (A B : Option Addr) (cp cq m : Nat) (x y s : Int) (o : Bool) (w : World) (hm : m = 4 * d.n) (hg : DgAt w A B d) (hin : inR d.n ⟨1, x, y, s, o⟩) :
    Calls Tryz.prog 22 #[.agg #[.slice A d.n cp, .slice B m cq, .int .i64 d.lp], (Mv.mk 1 x y s o).v] w (ResC (curlableC d x) (crl d x s o) ((⟨2, d.n, 0, 0, false⟩ : Mv)) w) := by
  have hn := hd.wf.few
  have hlp := hd.wf.lp
  have HM := hide hm
  have HG := hide hg
  have hm2 : m ≤ 256 := by omega
  clear hm hg
  have PB0 := hide (boxes4 w (.slice A d.n cp) (.slice B m cq) (.int .i64 (d.lp : Int)) (.int .i64 1) (.int .i64 x) (.int .i64 y) (.int .i64 s) (.bool o))
  unfold W4 at PB0
  obtain ⟨x0, x1, x2, x3, b0, s0⟩ := PB0.out
  have X0 := hide x0
  have X1 := hide x1
  have X2 := hide x2
  have X3 := hide x3
  have B0 := hide b0
  have S0 := hide s0
  clear x0 x1 x2 x3 b0 s0 PB0
  unfold Mv.v
  go_enter Tryz.func22, Tryz.ntmps22
  go_wp2_with fail
  refine (valid_yes d hd A B cp cq m _ HM.out (HG.out.keep B0.out)).mono ?_
  rintro e w1 ⟨rfl, hb1⟩
  have Y0 := hide (X0.out.below hb1)
  have Y1 := hide (X1.out.below hb1)
  have Y2 := hide (X2.out.below hb1)
  have Y3 := hide (X3.out.below hb1)
  have B1 := hide (B0.out.trans (hb1.mono B0.out.size))
  have hsz1 : w.heap.size + 4 ≤ w1.heap.size := by have := hb1.size; have := S0.out; omega
  clear X0 X1 X2 X3 B0 S0 hb1
  obtain ⟨d0, d1, d2, d3⟩ := box3 Y0.out
  obtain ⟨m0, m1, m2, m3, m4, m5⟩ := box5 Y1.out
  go_wp2_with fail
  refine (inRange_1 d.n x y s o w1 (by omega)).mono ?_
  rintro e w2 ⟨rfl, hb2⟩
  rw [Pl.vb_true hin]
  have hsz : w.heap.size + 4 ≤ w2.heap.size := by have := hb2.size; omega
  have AB2 := hide (show AB w w2.heap.size (w2.heap.size + 1) [.slice A d.n cp, .slice B m cq, .int .i64 (d.lp : Int)] [.int .i64 1, .int .i64 x, .int .i64 y, .int .i64 s, .bool o] ((w2.alloc (.cells #[.slice none 0 0, .slice none 0 0, .int .i64 0] 24)).alloc (.cells #[.int .i64 0, .int .i64 0, .int .i64 0, .int .i64 0, .bool false] 36)) from
    ⟨((Y0.out.below hb2).alloc _).alloc _, ((Y1.out.below hb2).alloc _).alloc _, ⟨_, ((Y2.out.below hb2).alloc _).alloc _, rfl⟩, ⟨_, ((Y3.out.below hb2).alloc _).alloc _, rfl⟩, ⟨_, (row_at (vs := [_, _, _]) rfl).alloc _, rfl⟩, ⟨_, row_at (vs := [_, _, _, _, _]) (by simp), rfl⟩, ((B1.out.trans (hb2.mono B1.out.size)).alloc (B1.out.trans (hb2.mono B1.out.size)).size _).alloc ((B1.out.trans (hb2.mono B1.out.size)).alloc (B1.out.trans (hb2.mono B1.out.size)).size _).size _, by omega, by omega, by omega⟩)
  obtain ⟨d0', d1', d2', d3'⟩ := box3 (Y0.out.below hb2)
  obtain ⟨m0', m1', m2', m3', m4', m5'⟩ := box5 (Y1.out.below hb2)
  clear d0 d1 d2 d3 m0 m1 m2 m3 m4 m5 Y0 Y1 Y2 Y3 B1 hb2 hsz1
  have z1 : w.heap.size < w2.heap.size := by omega
  have z2 : w.heap.size + 1 < w2.heap.size := by omega
  have hx : -1 ≤ x ∧ x < 4 * d.n := by have := hin; unfold inR at this; simp at this; omega
  have hs : s = 1 ∨ s = -1 := by have := hin; unfold inR at this; simp at this; omega
  have HG2 := hide (HG.out.keep AB2.out.bel)
  go_wp2_with fail
  obtain ⟨gr, hgr⟩ : ∃ g, g = w2.heap.size := ⟨_, rfl⟩
  obtain ⟨gi, hgi⟩ : ∃ g, g = w2.heap.size + 1 := ⟨_, rfl⟩
  rw [← hgi, ← hgr] at AB2
  rw [← hgi, ← hgr]
  clear hgr hgi
  refine (curl_m d hd.wf A B cp cq m 1 x y s o _ HM.out HG2.out hx hs).mono ?_
  intro e w3 hres
  have AB3 := hide (AB2.out.below hres.2.2)
  obtain ⟨cc, hcc⟩ : ∃ c, c = curlableC d x := ⟨_, rfl⟩
  obtain ⟨rr, hrr⟩ : ∃ r, r = crl d x s o := ⟨_, rfl⟩
  obtain ⟨mm, hmm⟩ : ∃ r, r = (⟨2, d.n, 0, 0, false⟩ : Mv) := ⟨_, rfl⟩
  unfold CurlPost at hres
  rw [← hcc, ← hrr, ← hmm] at hres
  have HCC := hide hcc
  have HRR := hide hrr
  have HMM := hide hmm
  clear hcc hrr hmm d0' d1' d2' d3' m0' m1' m2' m3' m4' m5' AB2 HG2
  by_cases hc : cc = 0
  · obtain ⟨A9, B9, c8, c9, k9, x9, y9, s9, o9, hmv, rfl, hT⟩ := ResOk.split (hres.2.1 hc)
    have HMV := hide hmv
    have HC := hide hc
    clear hmv hc
    have AD3 := hide (show AD w gr gi _ _ A9 B9 rr w3 from ⟨AB3.out, hT⟩)
    clear hT
    obtain ⟨N9, hN9⟩ : ∃ n, n = rr.n := ⟨_, rfl⟩
    obtain ⟨L9, hL9⟩ : ∃ n, n = rr.lp := ⟨_, rfl⟩
    rw [← hN9, ← hL9]
    have HN9 := hide hN9
    have HL9 := hide hL9
    clear hN9 hL9
    obtain ⟨_, r3, l3⟩ := AB3.out.r
    obtain ⟨_, r4, l4⟩ := AB3.out.i
    obtain ⟨_, r5, l5⟩ := AB3.out.rd
    obtain ⟨_, r6, l6⟩ := AB3.out.rm
    obtain ⟨e0, e1, e2, e3⟩ := cells3 r3 l3
    obtain ⟨f0, f1, f2, f3, f4, f5⟩ := cells5 r4 l4
    obtain ⟨g0, g1, g2, g3⟩ := cells3 r5 l5
    obtain ⟨h0, h1, h2, h3, h4, h5⟩ := cells5 r6 l6
    have y1 : gr ≠ w.heap.size + 1 + 1 := by have := AB3.out.lr; omega
    have y2 : gr ≠ w.heap.size + 1 + 1 + 1 := by have := AB3.out.lr; omega
    have y3 : gi ≠ w.heap.size + 1 + 1 := by have := AB3.out.li; omega
    have y4 : gi ≠ w.heap.size + 1 + 1 + 1 := by have := AB3.out.li; omega
    have y5 : gr ≠ gi := AB3.out.ne
    have y6 : w.heap.size + 1 + 1 ≠ w.heap.size + 1 + 1 + 1 := by omega
    clear r3 l3 r4 l4 r5 l5 r6 l6
    go_upto_region 22 with fail
    go_region
    go_wp2_with fail
    clear e0 e1 e2 e3 f0 f1 f2 f3 f4 f5 g0 g1 g2 g3 h0 h1 h2 h3 h4 h5
    have AD4 := hide ((((((((AD3.out.setR 0 (.slice A9 N9 c8)).setR 1 (.slice B9 (4 * N9) c9)).setR 2 (.int .i64 (L9 : Int))).setI 0 (.int .i64 k9)).setI 1 (.int .i64 x9)).setI 2 (.int .i64 y9)).setI 3 (.int .i64 s9)).setI 4 (.bool o9))
    obtain ⟨_, r5, l5⟩ := AD4.out.b.rd
    obtain ⟨_, r6, l6⟩ := AD4.out.b.rm
    refine bodyPost_ret (v := .tuple #[.agg #[.slice A9 N9 c8, .slice B9 (4 * N9) c9, .int .i64 (L9 : Int)], .agg #[.int .i64 k9, .int .i64 x9, .int .i64 y9, .int .i64 s9, .bool o9], .int .i64 0]) ?_ rfl ?_
    · obtain ⟨e0, e1, e2, e3, e4, e5, e6, e7⟩ := fin8 r5 r6 l5 l6 (by omega) (.slice A9 N9 c8) (.slice B9 (4 * N9) c9) (.int .i64 (L9 : Int)) (.int .i64 k9) (.int .i64 x9) (.int .i64 y9) (.int .i64 s9) (.bool o9)
      simp [results, Tryz.results22, go_sem, e0, e1, e2, e3, e4, e5, e6, e7]
    · have AD5 := (((((((AD4.out.setD 0 (.slice A9 N9 c8)).setD 1 (.slice B9 (4 * N9) c9)).setD 2 (.int .i64 (L9 : Int))).setM 0 (.int .i64 k9)).setM 1 (.int .i64 x9)).setM 2 (.int .i64 y9)).setM 3 (.int .i64 s9)).setM 4 (.bool o9)
      rw [← HCC.out, ← HRR.out, ← HMM.out]
      refine ⟨fun h => absurd HC.out h, fun _ => ⟨A9, B9, c8, c9, by rw [HMV.out, ← HN9.out, ← HL9.out]; rfl, AD5.drew.t⟩, AD5.drew.b.bel⟩
  · have HC := hide hc
    have hE := ResErr.split (hres.1 hc)
    subst hE
    have t1 : (cc != 0) = true := by rw [bne_iff_ne]; exact hc
    clear hc
    obtain ⟨_, r3, l3⟩ := AB3.out.r
    obtain ⟨_, r4, l4⟩ := AB3.out.i
    obtain ⟨_, r5, l5⟩ := AB3.out.rd
    obtain ⟨_, r6, l6⟩ := AB3.out.rm
    obtain ⟨e0, e1, e2, e3⟩ := cells3 r3 l3
    obtain ⟨f0, f1, f2, f3, f4, f5⟩ := cells5 r4 l4
    obtain ⟨g0, g1, g2, g3⟩ := cells3 r5 l5
    obtain ⟨h0, h1, h2, h3, h4, h5⟩ := cells5 r6 l6
    have y1 : gr ≠ w.heap.size + 1 + 1 := by have := AB3.out.lr; omega
    have y2 : gr ≠ w.heap.size + 1 + 1 + 1 := by have := AB3.out.lr; omega
    have y3 : gi ≠ w.heap.size + 1 + 1 := by have := AB3.out.li; omega
    have y4 : gi ≠ w.heap.size + 1 + 1 + 1 := by have := AB3.out.li; omega
    have y5 : gr ≠ gi := AB3.out.ne
    have y6 : w.heap.size + 1 + 1 ≠ w.heap.size + 1 + 1 + 1 := by omega
    clear r3 l3 r4 l4 r5 l5 r6 l6
    go_wp2
    clear e0 e1 e2 e3 f0 f1 f2 f3 f4 f5 g0 g1 g2 g3 h0 h1 h2 h3 h4 h5
    have AB4 := (((((((AB3.out.setR 0 (.slice none 0 0)).setR 1 (.slice none 0 0)).setR 2 (.int .i64 0)).setI 0 (.int .i64 0)).setI 1 (.int .i64 0)).setI 2 (.int .i64 0)).setI 3 (.int .i64 0)).setI 4 (.bool false)
    obtain ⟨_, r5, l5⟩ := AB4.rd
    obtain ⟨_, r6, l6⟩ := AB4.rm
    refine bodyPost_ret (v := .tuple #[nilD, nilM, .int .i64 cc]) ?_ rfl ?_
    · obtain ⟨e0, e1, e2, e3, e4, e5, e6, e7⟩ := fin8 r5 r6 l5 l6 (by omega) (.slice none 0 0) (.slice none 0 0) (.int .i64 0) (.int .i64 0) (.int .i64 0) (.int .i64 0) (.int .i64 0) (.bool false)
      unfold nilD nilM
      simp [results, Tryz.results22, go_sem, e0, e1, e2, e3, e4, e5, e6, e7]
    · rw [← HCC.out, ← HRR.out, ← HMM.out]
      exact ⟨fun _ => (show ResErr _ _ from rfl), fun h => absurd h HC.out, below8 AB4.bel _ _ _ _ _ _ _ _⟩
theorem uncurl_m (d : Pl.Dg) (hd : Pl.Wf d) (A B : Option Addr) (cp cq m c : Nat) (k y sg : Int) (ov : Bool) (w : World) (hm : m = 4 * d.n) (hg : DgAt w A B d) (hc : c < d.n) :
    Calls Tryz.prog 47 #[.agg #[.slice A d.n cp, .slice B m cq, .int .i64 d.lp], .agg #[.int .i64 k, .int .i64 (c : Int), .int .i64 y, .int .i64 sg, .bool ov]] w (UncPost d c w) := by
  subst hm; exact uncurl_any d hd A B cp cq c k y sg ov w hg hc
def unpD (d : Pl.Dg) (x y : Nat) : Pl.Dg := match lensI d x y with
  | some i => unpDl d (lensOf d (lnH x y i)) x y
  | none => d
def unpI (d : Pl.Dg) (x y : Nat) : Mv := match lensI d x y with
  | some i => pusI d (lensOf d (lnH x y i)) x y
  | none => ⟨0, 0, 0, 0, false⟩
set_option maxRecDepth 100000 in
set_option maxHeartbeats 4000000 in
theorem apply_2 (d : Pl.Dg) (hd : Pl.Valid d) (A B : Option Addr) (cp cq m : Nat) (x : Nat) (y s : Int) (o : Bool) (w : World) (hm : m = 4 * d.n) (hg : DgAt w A B d) (hin : inR d.n ⟨2, (x : Int), y, s, o⟩) :
    Calls Tryz.prog 22 #[.agg #[.slice A d.n cp, .slice B m cq, .int .i64 d.lp], (Mv.mk 2 (x : Int) y s o).v] w (ResC (uncC d x) (unD d x) (unI d x) w) := by
  have hn := hd.wf.few
  have hlp := hd.wf.lp
  have HM := hide hm
  have HG := hide hg
  have hm2 : m ≤ 256 := by omega
  clear hm hg
  have PB0 := hide (boxes4 w (.slice A d.n cp) (.slice B m cq) (.int .i64 (d.lp : Int)) (.int .i64 2) (.int .i64 (x : Int)) (.int .i64 y) (.int .i64 s) (.bool o))
  unfold W4 at PB0
  obtain ⟨x0, x1, x2, x3, b0, s0⟩ := PB0.out
  have X0 := hide x0
  have X1 := hide x1
  have X2 := hide x2
  have X3 := hide x3
  have B0 := hide b0
  have S0 := hide s0
  clear x0 x1 x2 x3 b0 s0 PB0
  unfold Mv.v
  go_enter Tryz.func22, Tryz.ntmps22
  go_wp2_with fail
  refine (valid_yes d hd A B cp cq m _ HM.out (HG.out.keep B0.out)).mono ?_
  rintro e w1 ⟨rfl, hb1⟩
  have Y0 := hide (X0.out.below hb1)
  have Y1 := hide (X1.out.below hb1)
  have Y2 := hide (X2.out.below hb1)
  have Y3 := hide (X3.out.below hb1)
  have B1 := hide (B0.out.trans (hb1.mono B0.out.size))
  have hsz1 : w.heap.size + 4 ≤ w1.heap.size := by have := hb1.size; have := S0.out; omega
  clear X0 X1 X2 X3 B0 S0 hb1
  obtain ⟨d0, d1, d2, d3⟩ := box3 Y0.out
  obtain ⟨m0, m1, m2, m3, m4, m5⟩ := box5 Y1.out
  go_wp2_with fail
  refine (inRange_2 d.n (x : Int) y s o w1 (by omega)).mono ?_
  rintro e w2 ⟨rfl, hb2⟩
  rw [Pl.vb_true hin]
  have hsz : w.heap.size + 4 ≤ w2.heap.size := by have := hb2.size; omega
  have AB2 := hide (show AB w w2.heap.size (w2.heap.size + 1) [.slice A d.n cp, .slice B m cq, .int .i64 (d.lp : Int)] [.int .i64 2, .int .i64 (x : Int), .int .i64 y, .int .i64 s, .bool o] ((w2.alloc (.cells #[.slice none 0 0, .slice none 0 0, .int .i64 0] 24)).alloc (.cells #[.int .i64 0, .int .i64 0, .int .i64 0, .int .i64 0, .bool false] 36)) from
    ⟨((Y0.out.below hb2).alloc _).alloc _, ((Y1.out.below hb2).alloc _).alloc _, ⟨_, ((Y2.out.below hb2).alloc _).alloc _, rfl⟩, ⟨_, ((Y3.out.below hb2).alloc _).alloc _, rfl⟩, ⟨_, (row_at (vs := [_, _, _]) rfl).alloc _, rfl⟩, ⟨_, row_at (vs := [_, _, _, _, _]) (by simp), rfl⟩, ((B1.out.trans (hb2.mono B1.out.size)).alloc (B1.out.trans (hb2.mono B1.out.size)).size _).alloc ((B1.out.trans (hb2.mono B1.out.size)).alloc (B1.out.trans (hb2.mono B1.out.size)).size _).size _, by omega, by omega, by omega⟩)
  obtain ⟨d0', d1', d2', d3'⟩ := box3 (Y0.out.below hb2)
  obtain ⟨m0', m1', m2', m3', m4', m5'⟩ := box5 (Y1.out.below hb2)
  clear d0 d1 d2 d3 m0 m1 m2 m3 m4 m5 Y0 Y1 Y2 Y3 B1 hb2 hsz1
  have z1 : w.heap.size < w2.heap.size := by omega
  have z2 : w.heap.size + 1 < w2.heap.size := by omega
  have hx : x < d.n := by have := hin; unfold inR at this; simp at this; omega
  have HG2 := hide (HG.out.keep AB2.out.bel)
  go_wp2_with fail
  obtain ⟨gr, hgr⟩ : ∃ g, g = w2.heap.size := ⟨_, rfl⟩
  obtain ⟨gi, hgi⟩ : ∃ g, g = w2.heap.size + 1 := ⟨_, rfl⟩
  rw [← hgi, ← hgr] at AB2
  rw [← hgi, ← hgr]
  clear hgr hgi
  refine (uncurl_m d hd.wf A B cp cq m x 2 y s o _ HM.out HG2.out hx).mono ?_
  intro e w3 hres
  have AB3 := hide (AB2.out.below hres.2.2)
  obtain ⟨cc, hcc⟩ : ∃ c, c = uncC d x := ⟨_, rfl⟩
  obtain ⟨rr, hrr⟩ : ∃ r, r = unD d x := ⟨_, rfl⟩
  obtain ⟨mm, hmm⟩ : ∃ r, r = unI d x := ⟨_, rfl⟩
  unfold UncPost at hres
  rw [← hcc, ← hrr, ← hmm] at hres
  have HCC := hide hcc
  have HRR := hide hrr
  have HMM := hide hmm
  clear hcc hrr hmm d0' d1' d2' d3' m0' m1' m2' m3' m4' m5' AB2 HG2
  by_cases hc : cc = 0
  · obtain ⟨A9, B9, c8, c9, k9, x9, y9, s9, o9, hmv, rfl, hT⟩ := ResOk.split (hres.2.1 hc)
    have HMV := hide hmv
    have HC := hide hc
    clear hmv hc
    have AD3 := hide (show AD w gr gi _ _ A9 B9 rr w3 from ⟨AB3.out, hT⟩)
    clear hT
    obtain ⟨N9, hN9⟩ : ∃ n, n = rr.n := ⟨_, rfl⟩
    obtain ⟨L9, hL9⟩ : ∃ n, n = rr.lp := ⟨_, rfl⟩
    rw [← hN9, ← hL9]
    have HN9 := hide hN9
    have HL9 := hide hL9
    clear hN9 hL9
    obtain ⟨_, r3, l3⟩ := AB3.out.r
    obtain ⟨_, r4, l4⟩ := AB3.out.i
    obtain ⟨_, r5, l5⟩ := AB3.out.rd
    obtain ⟨_, r6, l6⟩ := AB3.out.rm
    obtain ⟨e0, e1, e2, e3⟩ := cells3 r3 l3
    obtain ⟨f0, f1, f2, f3, f4, f5⟩ := cells5 r4 l4
    obtain ⟨g0, g1, g2, g3⟩ := cells3 r5 l5
    obtain ⟨h0, h1, h2, h3, h4, h5⟩ := cells5 r6 l6
    have y1 : gr ≠ w.heap.size + 1 + 1 := by have := AB3.out.lr; omega
    have y2 : gr ≠ w.heap.size + 1 + 1 + 1 := by have := AB3.out.lr; omega
    have y3 : gi ≠ w.heap.size + 1 + 1 := by have := AB3.out.li; omega
    have y4 : gi ≠ w.heap.size + 1 + 1 + 1 := by have := AB3.out.li; omega
    have y5 : gr ≠ gi := AB3.out.ne
    have y6 : w.heap.size + 1 + 1 ≠ w.heap.size + 1 + 1 + 1 := by omega
    clear r3 l3 r4 l4 r5 l5 r6 l6
    go_upto_region 22 with fail
    go_region
    go_wp2_with fail
    clear e0 e1 e2 e3 f0 f1 f2 f3 f4 f5 g0 g1 g2 g3 h0 h1 h2 h3 h4 h5
    have AD4 := hide ((((((((AD3.out.setR 0 (.slice A9 N9 c8)).setR 1 (.slice B9 (4 * N9) c9)).setR 2 (.int .i64 (L9 : Int))).setI 0 (.int .i64 k9)).setI 1 (.int .i64 x9)).setI 2 (.int .i64 y9)).setI 3 (.int .i64 s9)).setI 4 (.bool o9))
    obtain ⟨_, r5, l5⟩ := AD4.out.b.rd
    obtain ⟨_, r6, l6⟩ := AD4.out.b.rm
    refine bodyPost_ret (v := .tuple #[.agg #[.slice A9 N9 c8, .slice B9 (4 * N9) c9, .int .i64 (L9 : Int)], .agg #[.int .i64 k9, .int .i64 x9, .int .i64 y9, .int .i64 s9, .bool o9], .int .i64 0]) ?_ rfl ?_
    · obtain ⟨e0, e1, e2, e3, e4, e5, e6, e7⟩ := fin8 r5 r6 l5 l6 (by omega) (.slice A9 N9 c8) (.slice B9 (4 * N9) c9) (.int .i64 (L9 : Int)) (.int .i64 k9) (.int .i64 x9) (.int .i64 y9) (.int .i64 s9) (.bool o9)
      simp [results, Tryz.results22, go_sem, e0, e1, e2, e3, e4, e5, e6, e7]
    · have AD5 := (((((((AD4.out.setD 0 (.slice A9 N9 c8)).setD 1 (.slice B9 (4 * N9) c9)).setD 2 (.int .i64 (L9 : Int))).setM 0 (.int .i64 k9)).setM 1 (.int .i64 x9)).setM 2 (.int .i64 y9)).setM 3 (.int .i64 s9)).setM 4 (.bool o9)
      rw [← HCC.out, ← HRR.out, ← HMM.out]
      refine ⟨fun h => absurd HC.out h, fun _ => ⟨A9, B9, c8, c9, by rw [HMV.out, ← HN9.out, ← HL9.out]; rfl, AD5.drew.t⟩, AD5.drew.b.bel⟩
  · have HC := hide hc
    have hE := ResErr.split (hres.1 hc)
    subst hE
    have t1 : (cc != 0) = true := by rw [bne_iff_ne]; exact hc
    clear hc
    obtain ⟨_, r3, l3⟩ := AB3.out.r
    obtain ⟨_, r4, l4⟩ := AB3.out.i
    obtain ⟨_, r5, l5⟩ := AB3.out.rd
    obtain ⟨_, r6, l6⟩ := AB3.out.rm
    obtain ⟨e0, e1, e2, e3⟩ := cells3 r3 l3
    obtain ⟨f0, f1, f2, f3, f4, f5⟩ := cells5 r4 l4
    obtain ⟨g0, g1, g2, g3⟩ := cells3 r5 l5
    obtain ⟨h0, h1, h2, h3, h4, h5⟩ := cells5 r6 l6
    have y1 : gr ≠ w.heap.size + 1 + 1 := by have := AB3.out.lr; omega
    have y2 : gr ≠ w.heap.size + 1 + 1 + 1 := by have := AB3.out.lr; omega
    have y3 : gi ≠ w.heap.size + 1 + 1 := by have := AB3.out.li; omega
    have y4 : gi ≠ w.heap.size + 1 + 1 + 1 := by have := AB3.out.li; omega
    have y5 : gr ≠ gi := AB3.out.ne
    have y6 : w.heap.size + 1 + 1 ≠ w.heap.size + 1 + 1 + 1 := by omega
    clear r3 l3 r4 l4 r5 l5 r6 l6
    go_wp2
    clear e0 e1 e2 e3 f0 f1 f2 f3 f4 f5 g0 g1 g2 g3 h0 h1 h2 h3 h4 h5
    have AB4 := (((((((AB3.out.setR 0 (.slice none 0 0)).setR 1 (.slice none 0 0)).setR 2 (.int .i64 0)).setI 0 (.int .i64 0)).setI 1 (.int .i64 0)).setI 2 (.int .i64 0)).setI 3 (.int .i64 0)).setI 4 (.bool false)
    obtain ⟨_, r5, l5⟩ := AB4.rd
    obtain ⟨_, r6, l6⟩ := AB4.rm
    refine bodyPost_ret (v := .tuple #[nilD, nilM, .int .i64 cc]) ?_ rfl ?_
    · obtain ⟨e0, e1, e2, e3, e4, e5, e6, e7⟩ := fin8 r5 r6 l5 l6 (by omega) (.slice none 0 0) (.slice none 0 0) (.int .i64 0) (.int .i64 0) (.int .i64 0) (.int .i64 0) (.int .i64 0) (.bool false)
      unfold nilD nilM
      simp [results, Tryz.results22, go_sem, e0, e1, e2, e3, e4, e5, e6, e7]
    · rw [← HCC.out, ← HRR.out, ← HMM.out]
      exact ⟨fun _ => (show ResErr _ _ from rfl), fun h => absurd h HC.out, below8 AB4.bel _ _ _ _ _ _ _ _⟩
def nearP (d : Pl.Dg) (x y : Nat) : Prop := (Pl.Orb (Pl.nx d) x y ∨ ¬ Pl.Comp d (x / 4) (y / 4)) ∧ d.m x ≠ y
noncomputable def pkQ (d : Pl.Dg) (x y sg : Int) : Int :=
  if d.lp < needP x y sg then 6 else if Pl.vb (0 ≤ x ∧ 0 ≤ y ∧ x ≠ y ∧ ¬ nearP d x.toNat y.toNat) = true then 6 else if 64 < d.n + 2 then 5 else 0
end Go.Proofs.YtlffopdoeobgaaaGreatDoor
end

section
namespace Go.Proofs.YtlffopdoeobgaaaGreatDoor
open Go Go.RowKit
attribute [local go_sem ↓] Go.wp_at_zero Go.wp_at_succ
def sb (d : Pl.Dg) (h k : Nat) : Nat := Pl.tn (eo d (th d h k)) 2
def so (d : Pl.Dg) (h k : Nat) : Nat := eo d (th d h k)
def si (d : Pl.Dg) (h k : Nat) : Nat := ei d (th d h k)
def sf (d : Pl.Dg) (h k : Nat) : Nat := Pl.tn (ei d (th d h k)) 2
def sTo (d : Pl.Dg) (h : Nat) : Nat → List Nat
  | 0 => List.range (4 * d.n)
  | k + 1 => ((sTo d h k).set (sb d h k) (si d h k)).set (sf d h k) (so d h k)
def sOu (d : Pl.Dg) (h : Nat) : Nat → List Bool
  | 0 => List.replicate (4 * d.n) false
  | k + 1 => ((sOu d h k).set (sb d h k) true).set (sf d h k) true
def sM (d : Pl.Dg) (h : Nat) : Nat → List Nat
  | 0 => d.mt
  | u + 1 => if (sOu d h 3).getD u false = true then jn (sM d h u) ((sTo d h 3).getD u 0) ((sTo d h 3).getD (d.m u) 0) else sM d h u
def sF (d : Pl.Dg) (h : Nat) : Nat → List Nat
  | 0 => sM d h (4 * d.n)
  | k + 1 => jn (sF d h k) (sb d h k) (sf d h k)
def lnx (l : List Nat) (u : Nat) : Nat := Pl.tn (l.getD u 0) 3
def sC (d : Pl.Dg) (h u : Nat) : Bool := (sOu d h 3).getD u false && (sOu d h 3).getD (lnx (sF d h 3) u) false && (sOu d h 3).getD (lnx (sF d h 3) (lnx (sF d h 3) u)) false && lnx (sF d h 3) (lnx (sF d h 3) (lnx (sF d h 3) u)) == u
def sX (d : Pl.Dg) (h : Nat) : Nat → Nat
  | 0 => 0
  | g + 1 => if sC d h (4 * d.n - (g + 1)) then 4 * d.n - (g + 1) else sX d h g
open Classical in
noncomputable def sldC (d : Pl.Dg) (h : Nat) : Int := if isT d h then 0 else 6
def sldD (d : Pl.Dg) (h : Nat) : Pl.Dg := ⟨d.sg, sF d h 3, d.lp⟩
def sldI (d : Pl.Dg) (h : Nat) : Mv := ⟨5, sX d h (4 * d.n), 0, 0, false⟩
theorem cl1 (A : Option Addr) (n c : Nat) (xs : List Int) (w : World) (hx : IntsAt w A n xs) (hn : 0 < n ∧ n ≤ 1000) :
    Calls Tryz.prog 59 #[.slice A n c] w fun e w' => ∃ g c' : Nat, e = .returned (.slice (some ⟨g, 0, none⟩) n c') ∧ w'.ownsRow w.heap.size 3 1 (.slice (some ⟨g, 0, none⟩) n c') n (xs.map (.int .i64)) ∧ Below w.heap.size w w' := by
  have hl := hx.len
  obtain ⟨b, o, rfl, _⟩ := hx.at_ (k := 0) hn.1
  refine (Tryz.slices_Clone_int b o n c xs w (by omega) (by omega) (fun j hj => ?_)).mono ?_
  · obtain ⟨b', o', e, hc⟩ := hx.at_ (k := j) (by omega)
    injection e with e
    injection e with e1 e2
    subst e1
    subst e2
    exact hc
  · rintro e w' ⟨v, rfl, own, _, hb⟩
    rw [List.take_of_length_le (by omega)] at own
    obtain ⟨A', c', rfl⟩ := owns_slice own
    obtain ⟨g, rfl, _, _⟩ := owns_pos hn.1 own
    exact ⟨g, c', rfl, own, hb⟩
set_option maxRecDepth 100000 in
set_option maxHeartbeats 2000000 in
theorem clone_any (d : Pl.Dg) (A B : Option Addr) (cp cq m : Nat) (w : World) (hm : m = 4 * d.n) (hg : DgAt w A B d) (hn : 0 < d.n ∧ d.n ≤ 64) :
    Calls Tryz.prog 31 #[.agg #[.slice A d.n cp, .slice B m cq, .int .i64 d.lp]] w fun e w' => ∃ g1 c1 g2 c2 : Nat, e = .returned (.agg #[.slice (some ⟨g1, 0, none⟩) d.n c1, .slice (some ⟨g2, 0, none⟩) m c2, .int .i64 d.lp]) ∧
      w'.ownsRow w.heap.size 3 1 (.slice (some ⟨g1, 0, none⟩) d.n c1) d.n (d.sg.map (.int .i64)) ∧ OwnN w' w.heap.size g2 m c2 d.mt ∧ g1 ≠ g2 ∧ Below w.heap.size w w' := by
  have HG := hide hg
  have HGM := hide (show IntsAt w B m (nats d.mt) by rw [hm]; exact hg.m)
  have hm0 : 0 < m ∧ m ≤ 1000 := by omega
  have hnn : 0 < d.n ∧ d.n ≤ 1000 := by omega
  clear hm hg
  have HGS := hide (GS.start w (.slice A d.n cp) (.slice B m cq) (.int .i64 d.lp) (.slice none 0 0) (.slice none 0 0) (.int .i64 0))
  go_enter Tryz.func31, Tryz.ntmps31
  go_wp2_with fail
  obtain ⟨V0, hV0⟩ : ∃ V : World, V = (w.alloc (.cells #[.slice A d.n cp, .slice B m cq, .int .i64 d.lp] 24)).alloc (.cells #[.slice none 0 0, .slice none 0 0, .int .i64 0] 24) := ⟨_, rfl⟩
  rw [← hV0] at HGS ⊢
  have hv0 : w.heap.size + 2 ≤ V0.heap.size := by rw [hV0]; simp
  clear hV0
  obtain ⟨c0, c1, c2, c3, c4, c5, c6, _⟩ := HGS.out.all
  go_region_held3 (fun w' => w'.cell? ⟨w.heap.size, 0, none⟩ = some (.slice A d.n cp) ∧ w'.cell? ⟨w.heap.size, 1, none⟩ = some (.slice B m cq) ∧ w'.cell? ⟨w.heap.size, 2, none⟩ = some (.int .i64 d.lp) ∧ w'.cell? ⟨w.heap.size + 1, 0, none⟩ = some (cv w' ⟨w.heap.size + 1, 0, none⟩) ∧ w'.cell? ⟨w.heap.size + 1, 1, none⟩ = some (cv w' ⟨w.heap.size + 1, 1, none⟩) ∧ w'.cell? ⟨w.heap.size + 1, 2, none⟩ = some (cv w' ⟨w.heap.size + 1, 2, none⟩) ∧ (∀ o, w'.frozen? ⟨w.heap.size + 1, o, none⟩ = false) ∧ GS w w.heap.size (.slice A d.n cp) (.slice B m cq) (.int .i64 d.lp) w')
    ((go_split_ands; refine GS.all ?_; (repeat (first | (with_reducible assumption) | (with_reducible exact HGS.out) | (with_reducible refine GS.set ?_ _ _) | (with_reducible refine GS.drew ?_) | (with_reducible refine GS.below ?_ hbb) | (with_reducible refine GS.below ?_ hba)))))
    (first
      | (have hxa := hba
         clear hxa
         go_at_call 59
         refine Calls.mono (cl1 B m cq (nats d.mt) _ ?_ hm0) ?_
         · exact HGM.out.keep (HGS.out.drew.below hba).bel
         rintro e wb ⟨g2, k2, rfl, ownb, hbb⟩)
      | (go_at_call 59
         refine Calls.mono (cl1 A d.n cp d.sg _ ?_ hnn) ?_
         · exact HG.out.s.keep HGS.out.drew.bel
         rintro e wa ⟨g1, k1, rfl, owna, hba⟩))
  clear c0 c1 c2 c3 c4 c5 c6
  have G5 := hide ((HGS.out.drew.below hba).below hbb)
  go_wp2
  have ga := World.ownsRow.lt owna g1 rfl
  have gb := World.ownsRow.lt ownb g2 rfl
  have e9 : V0.drew.heap.size = V0.heap.size := rfl
  refine bodyPost_ret (v := .agg #[.slice (some ⟨g1, 0, none⟩) d.n k1, .slice (some ⟨g2, 0, none⟩) m k2, .int .i64 d.lp]) ?_ rfl ⟨g1, k1, g2, k2, rfl, ?_, ?_, ?_, ?_⟩
  · obtain ⟨e0, e1, e2⟩ := G5.out.fin (.slice (some ⟨g1, 0, none⟩) d.n k1) (.slice (some ⟨g2, 0, none⟩) m k2) (.int .i64 d.lp)
    simp [results, Tryz.results31, go_sem, e0, e1, e2]
  · exact own_set (own_set (own_set (own_keep (own_keep owna hbb (Nat.le_refl _)) (Below.refl _ _) (by omega)) (by omega)) (by omega)) (by omega)
  · unfold OwnN
    rw [← map_nats]
    exact own_set (own_set (own_set (own_keep ownb (Below.refl _ _) (by have := hba.size; omega)) (by omega)) (by omega)) (by omega)
  · omega
  · exact ((G5.out.bel.setCell (by show _ ≤ w.heap.size + 1; omega) _).setCell (by show _ ≤ w.heap.size + 1; omega) _).setCell (by show _ ≤ w.heap.size + 1; omega) _
section
variable {w W W' : World} {ge : Nat} {dv mv ev : List Value}
end
section
variable {w W W2 : World} {ge gt gu gr g1 c1 g2 c2 base m n : Nat} {dv mv ev : List Value} {tl : List Int} {ou : List Bool} {ss : List Value} {lp : Int} {L L' : List Nat}
end
end Go.Proofs.YtlffopdoeobgaaaGreatDoor
end

section
namespace Go.Proofs.YtlffopdoeobgaaaGreatDoor.Pl
variable {N : Nat} {S : Nat → Prop} {r a : Nat → Nat}
theorem gen_id (h : Hm N S r a) (hid : ∀ x, S x → a x = x) : Gen S r a 0 := by
  obtain ⟨z, hz⟩ := h.gen
  have hz' := hz
  obtain ⟨v, d, k, f, c, h1, h2, h3, h4, h5, rfl⟩ := hz
  have e1 : d = k := h2.unique (h3.congr (fun _ => Iff.rfl) (fun x y hx _ => ⟨fun e => (free_orb (hid x hx) e).symm, fun e => e ▸ Orb.refl a x⟩))
  have hp : ∀ x y, S x → (Orb (phi r a) x y ↔ Orb r x y) := fun x y hx =>
    ⟨fun e => orb_sub h.pb h.rb.eqv (fun z hz => by unfold phi; rw [hid z hz]; exact Orb.step r z) hx e,
     fun e => orb_sub h.rb h.pb.eqv (fun z hz => by have := Orb.step (phi r a) z; unfold phi at this; rw [hid z hz] at this; exact this) hx e⟩
  have e2 : f = v := h4.unique (h1.congr (fun _ => Iff.rfl) (fun x y hx _ => (hp x y hx).symm))
  have e3 : c = v := h5.unique (h1.congr (fun _ => Iff.rfl) (fun x y hx _ => ⟨fun e => orb_con_left a e, fun e => con_sub h h.rb.eqv (fun z _ => Orb.step r z) (fun z hz => by rw [hid z hz]; exact Orb.refl r z) hx e⟩))
  have : (2 * (c : Int) - v + d - k - f) = 0 := by omega
  rw [this] at hz'
  exact hz'
theorem Orb.congr {f g : Nat → Nat} (hm : ∀ x, S x → S (f x)) (h : ∀ x, S x → f x = g x) {x y : Nat} (hx : S x) : Orb f x y ↔ Orb g x y := by
  have key : ∀ k, it f k x = it g k x ∧ S (it f k x) := by
    intro k
    induction k with
    | zero => exact ⟨rfl, hx⟩
    | succ k ih => exact ⟨by show f (it f k x) = g (it g k x); rw [← ih.1, h _ ih.2], hm _ ih.2⟩
  constructor
  · rintro ⟨k, rfl⟩; exact ⟨k, (key k).1.symm⟩
  · rintro ⟨k, rfl⟩; exact ⟨k, (key k).1⟩
theorem Con.congr {f g f' g' : Nat → Nat} (h1 : ∀ x, S x → S (f x)) (h2 : ∀ x, S x → S (g x)) (e1 : ∀ x, S x → f x = f' x) (e2 : ∀ x, S x → g x = g' x) {x y : Nat} (hx : S x) : Con f g x y ↔ Con f' g' x y := by
  constructor
  · intro h
    have : Con f' g' x y ∧ S y := by
      induction h with
      | refl => exact ⟨.refl, hx⟩
      | left _ ih => exact ⟨by rw [e1 _ ih.2]; exact ih.1.left, h1 _ ih.2⟩
      | right _ ih => exact ⟨by rw [e2 _ ih.2]; exact ih.1.right, h2 _ ih.2⟩
    exact this.1
  · intro h
    have : Con f g x y ∧ S y := by
      induction h with
      | refl => exact ⟨.refl, hx⟩
      | left _ ih => exact ⟨by rw [← e1 _ ih.2]; exact ih.1.left, by rw [← e1 _ ih.2]; exact h1 _ ih.2⟩
      | right _ ih => exact ⟨by rw [← e2 _ ih.2]; exact ih.1.right, by rw [← e2 _ ih.2]; exact h2 _ ih.2⟩
    exact this.1
theorem Gen.congr {r' a' : Nat → Nat} {z : Int} (h : Hm N S r a) (e1 : ∀ x, S x → r x = r' x) (e2 : ∀ x, S x → a x = a' x) (hz : Gen S r a z) : Gen S r' a' z := by
  obtain ⟨v, d, k, f, c, h1, h2, h3, h4, h5, rfl⟩ := hz
  exact ⟨v, d, k, f, c, h1.congr (fun _ => Iff.rfl) (fun _ _ hx _ => Orb.congr h.rb.maps e1 hx), h2, h3.congr (fun _ => Iff.rfl) (fun _ _ hx _ => Orb.congr h.ab.maps e2 hx),
    h4.congr (fun _ => Iff.rfl) (fun _ _ hx _ => Orb.congr h.pb.maps (fun x hx => by unfold phi; rw [← e2 x hx, e1 _ (h.ab.maps x hx)]) hx),
    h5.congr (fun _ => Iff.rfl) (fun _ _ hx _ => Con.congr h.rb.maps h.ab.maps e1 e2 hx), rfl⟩
end Go.Proofs.YtlffopdoeobgaaaGreatDoor.Pl
end

section
namespace Go.Proofs.YtlffopdoeobgaaaGreatDoor.Pl
variable {N : Nat} {S : Nat → Prop} {r a : Nat → Nat}
def cj (t f : Nat → Nat) (x : Nat) : Nat := t (f (t x))
section
variable {t : Nat → Nat} {h0 h1 h2 p0 p1 p2 u0 u1 u2 v0 v1 v2 : Nat}
end
end Go.Proofs.YtlffopdoeobgaaaGreatDoor.Pl
end

section
namespace Go.Proofs.YtlffopdoeobgaaaGreatDoor.Pl
def ex (n : Nat) (a : Nat → Nat) (x : Nat) : Nat := if x < 4 * n then a x else x
theorem ex_old {n : Nat} {a : Nat → Nat} {x : Nat} (h : x < 4 * n) : ex n a x = a x := if_pos h
theorem ex_new {n : Nat} {a : Nat → Nat} {x : Nat} (h : 4 * n ≤ x) : ex n a x = x := if_neg (by omega)
theorem rot_lt {k x : Nat} (h : x < 4 * k) : rot x < 4 * k := tn_lt h
theorem rot_ge {k x : Nat} (h : 4 * k ≤ x) : 4 * k ≤ rot x := by unfold rot tn; omega
theorem rot_at (n e : Nat) (h : e < 4) : rot (4 * n + e) = 4 * n + (e + 3) % 4 := by unfold rot tn; omega
theorem ext_hm {n M : Nat} {a : Nat → Nat} (hM : n ≤ M) (h : Hm (4 * n) (fun h => h < 4 * n) rot a) : Hm (4 * M) (fun h => h < 4 * M) rot (ex n a) := by
  refine ⟨rot_bij M, ⟨fun _ h => h, fun x hx => ?_, fun x y hx hy e => ?_⟩, fun x hx => ?_⟩
  · by_cases h1 : x < 4 * n
    · show ex n a x < 4 * M
      rw [ex_old h1]; have := h.ab.maps x h1; omega
    · show ex n a x < 4 * M
      rw [ex_new (by omega)]; exact hx
  · by_cases h1 : x < 4 * n <;> by_cases h2 : y < 4 * n
    · rw [ex_old h1, ex_old h2] at e; exact h.ab.inj x y h1 h2 e
    · rw [ex_old h1, ex_new (by omega)] at e; have := h.ab.maps x h1; omega
    · rw [ex_new (by omega), ex_old h2] at e; have := h.ab.maps y h2; omega
    · rw [ex_new (by omega), ex_new (by omega)] at e; exact e
  · by_cases h1 : x < 4 * n
    · rw [ex_old h1, ex_old (h.ab.maps x h1)]; exact h.inv x h1
    · rw [ex_new (x := x) (by omega), ex_new (by omega)]
theorem ext_gen {n M : Nat} {a : Nat → Nat} {z : Int} (hM : n ≤ M) (h : Hm (4 * n) (fun h => h < 4 * n) rot a) (hf : Gen (fun h => h < 4 * n) rot a z) : Gen (fun h => h < 4 * M) rot (ex n a) z := by
  have h' := ext_hm hM h
  have hS : Hm (4 * M) (fun h => h < 4 * n) rot (ex n a) := ⟨⟨fun x hx => by omega, fun x hx => rot_lt hx, fun x y _ _ e => tn_inj e⟩, ⟨fun x hx => by omega, fun x hx => by rw [ex_old hx]; exact h.ab.maps x hx, fun x y hx hy e => by rw [ex_old hx, ex_old hy] at e; exact h.ab.inj x y hx hy e⟩, fun x hx => by rw [ex_old hx, ex_old (h.ab.maps x hx)]; exact h.inv x hx⟩
  have hT : Hm (4 * M) (fun h => 4 * n ≤ h ∧ h < 4 * M) rot (ex n a) := ⟨⟨fun x hx => hx.2, fun x hx => ⟨rot_ge hx.1, rot_lt hx.2⟩, fun x y _ _ e => tn_inj e⟩, ⟨fun x hx => hx.2, fun x hx => by rw [ex_new hx.1]; exact hx, fun x y hx hy e => by rw [ex_new hx.1, ex_new hy.1] at e; exact e⟩, fun x hx => by rw [ex_new (x := x) hx.1, ex_new hx.1]⟩
  have g1 : Gen (fun h => h < 4 * n) rot (ex n a) z := Gen.congr h (fun _ _ => rfl) (fun x hx => (ex_old hx).symm) hf
  have g2 := gen_id hT (fun x hx => ex_new hx.1)
  have := Gen.add hS hT (fun x hx hx' => by omega) g1 g2
  rw [Int.add_zero] at this
  have e : (fun x => x < 4 * n ∨ (4 * n ≤ x ∧ x < 4 * M)) = (fun h => h < 4 * M) := by funext x; exact propext ⟨fun h => by omega, fun h => by omega⟩
  rwa [e] at this
def Kq (n i0 o0 i1 o1 : Nat) : Prop :=
  (i0 = 4 * n + 0 ∧ o0 = 4 * n + 2 ∧ i1 = 4 * n + 3 ∧ o1 = 4 * n + 1) ∨ (i0 = 4 * n + 0 ∧ o0 = 4 * n + 2 ∧ i1 = 4 * n + 1 ∧ o1 = 4 * n + 3) ∨
  (i0 = 4 * n + 3 ∧ o0 = 4 * n + 1 ∧ i1 = 4 * n + 0 ∧ o1 = 4 * n + 2) ∨ (i0 = 4 * n + 1 ∧ o0 = 4 * n + 3 ∧ i1 = 4 * n + 0 ∧ o1 = 4 * n + 2)
theorem Kq.face {n i0 o0 i1 o1 : Nat} (k : Kq n i0 o0 i1 o1) {b : Nat → Nat} (b1 : b o0 = i1) (b2 : b i1 = o0) (b3 : b o1 = o1) : Orb (phi rot b) o1 i0 := by
  rcases k with ⟨rfl, rfl, rfl, rfl⟩ | ⟨rfl, rfl, rfl, rfl⟩ | ⟨rfl, rfl, rfl, rfl⟩ | ⟨rfl, rfl, rfl, rfl⟩
  · exact ⟨1, by show rot (b (4 * n + 1)) = _; rw [b3, rot_at n 1 (by omega)]⟩
  · exact ⟨2, by show rot (b (rot (b (4 * n + 3)))) = _; rw [b3, rot_at n 3 (by omega), b1, rot_at n 1 (by omega)]⟩
  · exact ⟨2, by show rot (b (rot (b (4 * n + 2)))) = _; rw [b3, rot_at n 2 (by omega), b1, rot_at n 0 (by omega)]⟩
  · exact ⟨1, by show rot (b (4 * n + 2)) = _; rw [b3, rot_at n 2 (by omega)]⟩
theorem Kq.bd {n i0 o0 i1 o1 : Nat} (k : Kq n i0 o0 i1 o1) : (4 * n ≤ i0 ∧ i0 < 4 * (n + 1)) ∧ (4 * n ≤ o0 ∧ o0 < 4 * (n + 1)) ∧ (4 * n ≤ i1 ∧ i1 < 4 * (n + 1)) ∧ (4 * n ≤ o1 ∧ o1 < 4 * (n + 1)) ∧ i0 ≠ o0 ∧ i0 ≠ i1 ∧ i0 ≠ o1 ∧ o0 ≠ i1 ∧ o0 ≠ o1 ∧ i1 ≠ o1 := by
  unfold Kq at k; omega
theorem orb_new {n x y : Nat} {b : Nat → Nat} (hx : 4 * n ≤ x ∧ x < 4 * (n + 1)) (hy : 4 * n ≤ y ∧ y < 4 * (n + 1)) (hb : ∀ z, 4 * n ≤ z → z < 4 * (n + 1) → b z = z) : Orb (phi rot b) x y := by
  have st : ∀ z, 4 * n ≤ z → z < 4 * (n + 1) → phi rot b z = rot z := fun z h1 h2 => by unfold phi; rw [hb z h1 h2]
  have r1 : ∀ z, 4 * n ≤ z → z < 4 * (n + 1) → 4 * n ≤ rot z ∧ rot z < 4 * (n + 1) := fun z h1 h2 => ⟨rot_ge h1, rot_lt h2⟩
  have a1 := r1 x hx.1 hx.2
  have a2 := r1 _ a1.1 a1.2
  have key : y = x ∨ y = rot x ∨ y = rot (rot x) ∨ y = rot (rot (rot x)) := by unfold rot tn; omega
  rcases key with rfl | rfl | rfl | rfl
  · exact Orb.refl _ _
  · exact ⟨1, st x hx.1 hx.2⟩
  · exact ⟨2, by show phi rot b (phi rot b x) = _; rw [st x hx.1 hx.2, st _ a1.1 a1.2]⟩
  · exact ⟨3, by show phi rot b (phi rot b (phi rot b x)) = _; rw [st x hx.1 hx.2, st _ a1.1 a1.2, st _ a2.1 a2.2]⟩
theorem loop_flat {n i0 o0 i1 o1 : Nat} {a : Nat → Nat} (h : Hm (4 * n) (fun h => h < 4 * n) rot a) (hf : Flat (fun h => h < 4 * n) rot a) (k : Kq n i0 o0 i1 o1) : Flat (fun h => h < 4 * (n + 1)) rot (tr (ex n a) o0 i1) := by
  obtain ⟨a1, a2, a3, a4, n1, n2, n3, n4, n5, n6⟩ := k.bd
  exact Flat.add (ext_hm (by omega) h) a2.2 a3.2 n4 (ex_new a2.1) (ex_new a3.1) (fun _ => orb_new a2 a3 (fun z h1 _ => ex_new h1)) (ext_gen (by omega) h hf)
theorem kink_loop {n i0 o0 i1 o1 : Nat} {a : Nat → Nat} (h : Hm (4 * n) (fun h => h < 4 * n) rot a) (hf : Flat (fun h => h < 4 * n) rot a) (k : Kq n i0 o0 i1 o1) : Flat (fun h => h < 4 * (n + 1)) rot (tr (tr (ex n a) o0 i1) o1 i0) := by
  obtain ⟨a1, a2, a3, a4, n1, n2, n3, n4, n5, n6⟩ := k.bd
  have hx := ext_hm (Nat.le_succ n) h
  have h1 := hx.tr (x := o0) (y := i1) a2.2 a3.2 (ex_new a2.1) (ex_new a3.1)
  have f1 : tr (ex n a) o0 i1 o1 = o1 := by rw [tr_ne (Ne.symm n5) (Ne.symm n6), ex_new a4.1]
  have f2 : tr (ex n a) o0 i1 i0 = i0 := by rw [tr_ne n1 n2, ex_new a1.1]
  refine Flat.add h1 a4.2 a1.2 (Ne.symm n3) f1 f2 (fun _ => k.face ?_ ?_ f1) (loop_flat h hf k)
  · rw [tr_a, ex_new a3.1]
  · rw [tr_b, ex_new a2.1]
end Go.Proofs.YtlffopdoeobgaaaGreatDoor.Pl
end
