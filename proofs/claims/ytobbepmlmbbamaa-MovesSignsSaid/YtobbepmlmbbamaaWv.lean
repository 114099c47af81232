/-
  Walks: Graph.
-/
import Derived.Test.YtobbepmlmbbamaaWu
namespace Go.Proofs.Ytobbepmlmbbamaa
open Go Go.RowKit

/-- The crossings below k with the label i. -/
def Gl (ps : List Int) (k i : Nat) : List Nat := (List.range k).filter (fun c => decide (Pl.pv ps c = (i : Int)))
theorem Gl_succ (ps : List Int) (k i : Nat) : Gl ps (k + 1) i = Gl ps k i ++ if Pl.pv ps k = (i : Int) then [k] else [] := by
  unfold Gl
  rw [List.range_succ, List.filter_append]
  by_cases h : Pl.pv ps k = (i : Int) <;> simp [List.filter_cons, h]
theorem Gl_len (ps : List Int) (k i : Nat) : (Gl ps k i).length ≤ k := by
  unfold Gl
  have := List.length_filter_le (fun c => decide (Pl.pv ps c = (i : Int))) (List.range k)
  simpa using this
theorem mem_Gl {ps : List Int} {k i c : Nat} : c ∈ Gl ps k i ↔ c < k ∧ Pl.pv ps c = (i : Int) := by unfold Gl; simp
def gv (vs : List Value) (i : Nat) : Value := vs.getD i (.slice none 0 0)
/-- Groups that are being filled. -/
structure Grp (w : World) (g P : Nat) (ps : List Int) (k : Nat) (vs : List Value) (W : World) : Prop where
  len : vs.length = P
  row : Row W g 22 vs
  own : ∀ i, i < P → W.ownsRow (g + 1) 3 1 (gv vs i) (Gl ps k i).length ((Gl ps k i).map (fun k : Nat => Value.int .i64 k))
  ne : ∀ i j, i < P → j < P → i ≠ j → ∀ b, (gv vs i).ownBlock = some b → (gv vs j).ownBlock ≠ some b
  bel : Below w.heap.size w W
  lo : w.heap.size ≤ g
theorem Grp.below {w : World} {g P : Nat} {ps : List Int} {k : Nat} {vs : List Value} {W W' : World} (h : Grp w g P ps k vs W) (hb : Below W.heap.size W W') : Grp w g P ps k vs W' :=
  ⟨h.len, h.row.below hb, fun i hi => own_keep (h.own i hi) hb (Nat.le_refl _), h.ne, h.bel.trans (hb.mono h.bel.size), h.lo⟩
theorem gv_set {vs : List Value} {q : Nat} (hq : q < vs.length) (v : Value) (i : Nat) : gv (vs.set q v) i = if i = q then v else gv vs i := by
  unfold gv
  rw [List.getD_eq_getElem?_getD, List.getD_eq_getElem?_getD, List.getElem?_set]
  by_cases h : q = i
  · subst h; simp [hq]
  · rw [if_neg h, if_neg (fun e => h e.symm)]
theorem Grp.put {w : World} {g P : Nat} {ps : List Int} {k q : Nat} {vs : List Value} {W W2 : World} {v' : Value} {g' : Nat} (h : Grp w g P ps k vs W) (hq : q < P) (hp : Pl.pv ps k = (q : Int))
    (own : W2.ownsRow (g + 1) 3 1 v' ((Gl ps k q).length + 1) ((Gl ps k q).map (fun k : Nat => Value.int .i64 k) ++ [.int .i64 (k : Nat)])) (gr : W.grownBy W2 (gv vs q).ownBlock) (hv : v'.ownBlock = some g') (hat : (gv vs q).ownBlock = some g' ∨ g' = W.heap.size) :
    Grp w g P ps (k + 1) (vs.set q v') (W2.setCell ⟨g, q, none⟩ v') := by
  have hql : q < vs.length := by rw [h.len]; exact hq
  have hlt := fun i hi => (h.own i hi).lt
  refine ⟨by rw [List.length_set, h.len], (h.row.grown gr ?_).set q v', fun i hi => ?_, fun i j hi hj hij b e1 e2 => ?_, (h.bel.grown gr h.bel.size (fun b e => by have := (hlt q hq b e).1; have := h.lo; omega)).setCell h.lo _, h.lo⟩
  · intro e
    have := (hlt q hq g e.symm).1
    omega
  · rw [gv_set hql, Gl_succ]
    by_cases e : i = q
    · subst e
      rw [if_pos rfl, if_pos hp]
      refine ownsRow_setCell_below ?_ (by show g < g + 1; omega) _
      simpa using own
    · rw [if_neg e, if_neg (by omega), List.append_nil]
      refine ownsRow_setCell_below ((h.own i hi).kept gr ?_) (by show g < g + 1; omega) _
      cases hm : (gv vs i).ownBlock with
      | none => exact .inl rfl
      | some b => exact .inr (fun e' => h.ne i q hi hq e b hm e'.symm)
  · rw [gv_set hql] at e1 e2
    by_cases ei : i = q
    · rw [if_pos ei, hv] at e1
      injection e1 with e1
      rw [if_neg (by omega)] at e2
      rcases hat with e | e
      · exact h.ne q j hq hj (by omega) g' e (by rw [e2, e1])
      · have := (hlt j hj b e2).2
        omega
    · rw [if_neg ei] at e1
      by_cases ej : j = q
      · rw [if_pos ej, hv] at e2
        injection e2 with e2
        rcases hat with e | e
        · exact h.ne i q hi hq ei g' (by rw [e1, e2]) e
        · have := (hlt i hi b e1).2
          omega
      · rw [if_neg ej] at e2
        exact h.ne i j hi hj hij b e1 e2
def GraphPost (d : Pl.Dg) (w : World) (e : Ending) (w' : World) : Prop :=
  ∃ (A : Option Addr) (c P : Nat) (ps : List Int) (vs : List Value), e = .returned (.slice A P c) ∧ P ≤ d.n ∧ Pl.LB d ps P ∧ (∀ a, a < d.n → 0 ≤ Pl.pv ps a) ∧ RowT w' 22 A P vs ∧ Vs w' vs ((List.range P).map (Gl ps d.n)) ∧ Below w.heap.size w w' ∧ Far w.heap.size vs
theorem run_rows (n : Nat) (hn : n ≤ 100000) (w : World) : (Instr.makeSlice 57 (.int .i64 (n : Int)) (.int .i64 (n : Int))).run Try.prog w = .ok (.slice (some ⟨w.heap.size, 0, none⟩) n n) (w.alloc (.cells (Array.replicate n (Value.slice none 0 0)) 22)) := by
  obtain ⟨i0, hi, hz0, hz1, hz2⟩ := info_parts rowInfo
  have := run_make (P := Try.prog) w 57 22 i0 (.slice none 0 0) Try.underlying57 hi hz0 .i64 .i64 n n (by omega) (Int.le_refl _) (by rw [hz2]; omega) (by omega)
  rw [hz1, Nat.mul_one, Int.toNat_natCast, show madeCells (Value.cells (.slice none 0 0)) n = (List.replicate n (.slice none 0 0)).toArray from made_rep _ _] at this
  exact this
theorem Row.gv {W : World} {g : Nat} {t : TypeId} {vs : List Value} (h : Row W g t vs) {q : Nat} (hq : q < vs.length) : W.cell? ⟨g, q, none⟩ = some (gv vs q) := by
  rw [h.cell hq]
  unfold Go.Proofs.Ytobbepmlmbbamaa.gv
  rw [List.getD_eq_getElem?_getD, List.getElem?_eq_getElem hq]; rfl
theorem range_get {P i : Nat} {l : List Nat} {f : Nat → List Nat} (e : ((List.range P).map f)[i]? = some l) : i < P ∧ l = f i := by
  rw [List.getElem?_map] at e
  by_cases h : i < P
  · rw [List.getElem?_range h] at e
    injection e with e
    exact ⟨h, e.symm⟩
  · rw [List.getElem?_eq_none (by simpa using Nat.le_of_not_lt h)] at e
    cases e
theorem Grp.vs {w : World} {g P : Nat} {ps : List Int} {k : Nat} {vs : List Value} {W : World} (h : Grp w g P ps k vs W) : Vs W vs ((List.range P).map (Gl ps k)) := by
  refine ⟨by simp [h.len], fun i l e => ?_⟩
  obtain ⟨hi, rfl⟩ := range_get e
  have ho := h.own i hi
  obtain ⟨A, c, e2⟩ := owns_slice ho
  refine ⟨Go.Proofs.Ytobbepmlmbbamaa.gv vs i, ?_, A, c, e2, by rw [e2] at ho; exact own_rowT ho⟩
  unfold Go.Proofs.Ytobbepmlmbbamaa.gv
  rw [List.getD_eq_getElem?_getD, List.getElem?_eq_getElem (by rw [h.len]; exact hi)]; rfl
theorem Grp.far {w : World} {g P : Nat} {ps : List Int} {k : Nat} {vs : List Value} {W : World} (h : Grp w g P ps k vs W) : Far w.heap.size vs := fun v hv b hb => by
  obtain ⟨i, hi, e⟩ := List.mem_iff_getElem.1 hv
  have h1 : Go.Proofs.Ytobbepmlmbbamaa.gv vs i = v := by unfold Go.Proofs.Ytobbepmlmbbamaa.gv; rw [List.getD_eq_getElem?_getD, List.getElem?_eq_getElem hi]; exact e
  have h2 := (h.own i (by rw [← h.len]; exact hi)).lt b (by rw [h1]; exact hb)
  have := h.lo
  omega
set_option maxRecDepth 100000 in
set_option maxHeartbeats 2000000 in
theorem graph_any (d : Pl.Dg) (hd : Pl.Valid d) (A B : Option Addr) (cp cq m : Nat) (w : World) (hm : m = 4 * d.n) (hg : DgAt w A B d) :
    Calls Try.prog 91 #[.agg #[.slice A d.n cp, .slice B m cq, .int .i64 d.lp]] w (GraphPost d w) := by
  have hn := hd.wf.few
  have HM := hide hm
  have HG := hide hg
  have B0 := hide (show Below w.heap.size w (w.alloc (.cells #[.slice A d.n cp, .slice B m cq, .int .i64 d.lp] 24)) from (Below.refl _ _).alloc (Nat.le_refl _) _)
  have X0 := hide (show Row (w.alloc (.cells #[.slice A d.n cp, .slice B m cq, .int .i64 d.lp] 24)) w.heap.size 24 [.slice A d.n cp, .slice B m cq, .int .i64 d.lp] from Row.new w _ [_, _, _])
  clear hg
  subst hm
  go_enter Try.func91, Try.ntmps91
  go_wp2_with fail
  refine (valid_yes d hd A B cp cq _ _ rfl (HG.out.keep B0.out)).mono ?_
  rintro e w1 ⟨rfl, hb1⟩
  have B1 := hide (B0.out.trans (hb1.mono B0.out.size))
  have X1 := hide (X0.out.below hb1)
  obtain ⟨f0, f1, f2, f3⟩ := box3 X1.out
  clear hb1
  go_wp2_with fail
  refine (label_any d hd.wf A B cp cq _ _ (HG.out.keep B1.out)).mono ?_
  rintro e w2 ⟨ps, P, gp, rfl, hlb, hall, hgp, hir, hb2⟩
  have HLB := hide hlb
  have HALL := hide hall
  have hPn := hlb.le
  have HIR := hide hir
  have B2 := hide (B1.out.trans (hb2.mono B1.out.size))
  have hgps := hir.lt
  have hps : ps.length = d.n := hlb.len
  have HPS := hide hps
  clear hlb hall hir hb2 f0 f1 f2 f3 hps
  have hmk := fun W : World => run_rows P (by omega) W
  have H0 := hide (show Grp w w2.heap.size P ps 0 (List.replicate P (.slice none 0 0)) (w2.alloc (.cells (Array.replicate P (Value.slice none 0 0)) 22)) from by
    have hgv : ∀ i, gv (List.replicate P (.slice none 0 0)) i = .slice none 0 0 := fun i => by
      unfold Go.Proofs.Ytobbepmlmbbamaa.gv
      rw [List.getD_eq_getElem?_getD, List.getElem?_replicate]
      split <;> rfl
    refine ⟨by simp, ?_, fun i hi => ?_, fun i j hi hj hij b e => ?_, B2.out.alloc B2.out.size _, B2.out.size⟩
    · have := Row.new w2 22 (List.replicate P (.slice none 0 0))
      simpa using this
    · rw [hgv]; exact World.ownsRow_nil _ _ _ _
    · rw [hgv] at e; simp [Value.ownBlock] at e)
  have HI0 := hide (show IRow (w2.alloc (.cells (Array.replicate P (Value.slice none 0 0)) 22)) gp ps from Row.alloc HIR.out _)
  go_wp2
  clear hmk
  obtain ⟨gg, hgg⟩ : ∃ gg, gg = w2.heap.size := ⟨_, rfl⟩
  rw [← hgg] at H0 hgps ⊢
  have HGG := hide hgg
  go_loopg [20] d.n (fun g i wx => ∃ (k : Nat) (vs : List Value), k + g = d.n ∧ i = .int .i64 k ∧ Grp w gg P ps k vs wx ∧ IRow wx gp ps)
  case atStart => exact ⟨0, _, by omega, rfl, by have := H0.out; rw [hgg] at this ⊢; exact this, HI0.out⟩
  case round =>
    clear H0 HI0 HIR hgg HGG
    obtain ⟨k, vs, hkg, rfl, hgr, hir⟩ := hrel
    have HKG := hide hkg
    have hkn : k ≤ d.n := by omega
    have HGR := hide hgr
    have HIR := hide hir
    have hsz := hgr.row.lt
    clear hkg hgr hir
    by_cases hlt : k < d.n
    · have c1 := HIR.out.cell (i := k) (by rw [HPS.out]; exact hlt)
      have h0 := HALL.out k hlt
      have h1 := (HLB.out.lo k hlt).2
      obtain ⟨q, hq⟩ := Int.eq_ofNat_of_zero_le h0
      rw [hq] at c1 h1
      have HQ := hide hq
      clear hq h0
      have hqP : q < P := by omega
      have hql : q < vs.length := by rw [HGR.out.len]; exact hqP
      have c2 := HGR.out.row.gv hql
      have fr2 := HGR.out.row.free q
      obtain ⟨vq, hvq⟩ : ∃ v, v = gv vs q := ⟨_, rfl⟩
      rw [← hvq] at c2
      have HVQ := hide hvq
      clear hvq
      have iq : (0 : Int) ≤ (q : Int) := by omega
      have jq : (q : Int) < (P : Int) := by omega
      have hgl := Gl_len ps k q
      obtain ⟨i0, hi0, hz0, hz1, hz2⟩ := info_parts intInfo
      have OQ := hide (show wr.ownsRow (gg + 1) 3 1 vq (Gl ps k q).length ((Gl ps k q).map (fun k : Nat => Value.int .i64 k)) by rw [HVQ.out]; exact HGR.out.own q hqP)
      go_wp2_with (at_builtin; refine wpList_append_lies _ (by rfl) _ _ 22 (by rfl) (gg + 1) 3 i0 (.int .i64 0) 1 8 Try.underlying22 hi0 hz0 hz1 hz2 rfl (by omega) vq (Gl ps k q).length _ (by rfl) (OQ.out.alloc _) ⟨wr.heap.size, 0, none⟩ 1 1 [.int .i64 (k : Nat)] (by rfl) (by rfl) (one_news wr (.int .i64 (k : Nat))) (by simp [Value.oneCell']) (by omega) (by unfold maxLen; omega) (by omega) (by simp; omega) (wr.heap.size + 1) (by simp) ?_; intro g3 c3 w3 own3 grow3 at3 lt3; have hrow3 := Row.grown (Row.alloc HGR.out.row (.cells #[.int .i64 (k : Nat)] 3)) grow3 (by intro e; have := (OQ.out.lt gg e.symm).1; omega); have cq3 := hrow3.gv hql; have fq3 := hrow3.free q; have OWN3 := hide own3; have GR3 := hide grow3; have AT3 := hide at3; have HROW3 := hide hrow3; clear own3 grow3 at3 hrow3)
      go_roundg (gk - 1)
      case measure => have := HKG.out; omega
      case rel =>
        refine ⟨k + 1, vs.set q (.slice (some ⟨g3, 0, none⟩) ((Gl ps k q).length + 1) c3), by have := HKG.out; omega, by go_num, ?_, ?_⟩
        · exact Grp.put (HGR.out.below ((Below.refl _ _).alloc (Nat.le_refl _) (.cells #[.int .i64 (k : Nat)] 3))) hqP HQ.out OWN3.out (by rw [← HVQ.out]; exact GR3.out) rfl (by rw [← HVQ.out]; simpa using AT3.out)
        · refine Row.other (Row.grown (Row.alloc HIR.out _) GR3.out ?_) (by show gp ≠ gg; omega) _
          intro e
          have := (OQ.out.lt gp e.symm).1
          omega
    · go_wp2
      go_ret
      obtain rfl : k = d.n := by omega
      refine ⟨_, _, P, ps, vs, rfl, hPn, HLB.out, HALL.out, ?_, HGR.out.vs, HGR.out.bel, HGR.out.far⟩
      refine ⟨HGR.out.len, fun _ => ⟨gg, 0, vs.toArray, (0, 0), rfl, HGR.out.row, fun j u hu => ?_⟩⟩
      rw [Nat.zero_add]
      simpa using hu
end Go.Proofs.Ytobbepmlmbbamaa
