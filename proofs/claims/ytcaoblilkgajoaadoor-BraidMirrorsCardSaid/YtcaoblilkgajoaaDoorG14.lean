/-
 The texts Bd, Be in one.
-/
import Derived.Test.YtcaoblilkgajoaaDoorG12
import Derived.Deep.DeepCutAuto
import Derived.StillTailTactics
import Derived.Laws.EntriesVeiled
import Derived.RegionCalls
set_option linter.unusedVariables false
set_option linter.unusedSimpArgs false
section
namespace Go.Proofs.YtcaoblilkgajoaaDoor
open Go Go.RowKit
attribute [local go_sem ↓] Go.wp_at_zero Go.wp_at_succ
/-- The blocks of Closure: the diagram, the boxes of first and last, the mates, the rows of first and last, the box of join. -/
structure CBr (base : Nat) (w : World) (gd gf gl gM gF gL gj m s : Nat) (vS : Value) (sg : List Int) (q : Pl.ClS) (lp : Nat) (W : World) : Prop where
 d : Row W gd 28 [vS, .slice (some ⟨gM, 0, none⟩) m m, .int .i64 (lp : Int)]
 mr : IRow W gM (nats q.mt)
 fb : Row W gf 22 [.slice (some ⟨gF, 0, none⟩) s s]
 lb : Row W gl 22 [.slice (some ⟨gL, 0, none⟩) s s]
 fr : IRow W gF q.fi
 lr : IRow W gL q.la
 jb : Row W gj 61 [.func (.func 36) #[] #[.pointer (some ⟨gd, 0, none⟩)]]
 own : W.ownsRow base 3 1 vS sg.length (sg.map (.int .i64))
 nd : [gd, gf, gl, gM, gF, gL, gj].Nodup
 lo : ∀ g, g ∈ [gd, gf, gl, gM, gF, gL, gj] → w.heap.size ≤ g ∧ g < base
 bel : Below w.heap.size w W
 big : base ≤ W.heap.size
 lm : q.mt.length = m
 lf : q.fi.length = s
 ll : q.la.length = s
section
variable {base : Nat} {w W W' : World} {gd gf gl gM gF gL gj m s : Nat} {vS : Value} {sg : List Int} {q : Pl.ClS} {lp : Nat}
theorem CBr.below (h : CBr base w gd gf gl gM gF gL gj m s vS sg q lp W) (hb : Below W.heap.size W W') : CBr base w gd gf gl gM gF gL gj m s vS sg q lp W' :=
 ⟨h.d.below hb, Row.below h.mr hb, h.fb.below hb, h.lb.below hb, Row.below h.fr hb, Row.below h.lr hb, h.jb.below hb, own_below h.own hb, h.nd, h.lo, h.bel.trans (hb.mono h.bel.size), Nat.le_trans h.big hb.size, h.lm, h.lf, h.ll⟩
theorem CBr.setM (h : CBr base w gd gf gl gM gF gL gj m s vS sg q lp W) (i x : Nat) : CBr base w gd gf gl gM gF gL gj m s vS sg ⟨q.mt.set i x, q.fi, q.la⟩ lp (W.setCell ⟨gM, i, none⟩ (.int .i64 (x : Int))) := by
 have nd := h.nd
 simp only [List.nodup_cons, List.mem_cons, not_or, List.not_mem_nil, not_false_iff, and_true, List.nodup_nil] at nd
 obtain ⟨⟨a1, a2, a3, a4, a5, a6⟩, ⟨b2, b3, b4, b5, b6⟩, ⟨c3, c4, c5, c6⟩, ⟨d4, d5, d6⟩, ⟨e5, e6⟩, f6⟩ := nd
 have lo := h.lo gM (by simp)
 refine ⟨h.d.other (show _ ≠ gM from a3) _, ?_, h.fb.other (show _ ≠ gM from b3) _, h.lb.other (show _ ≠ gM from c3) _, Row.other h.fr (show _ ≠ gM from fun e => d4 e.symm) _, Row.other h.lr (show _ ≠ gM from fun e => d5 e.symm) _, h.jb.other (show _ ≠ gM from fun e => d6 e.symm) _, ownsRow_setCell_below h.own (by show gM < base; omega) _, h.nd, h.lo, h.bel.setCell (by show _ ≤ gM; omega) _, by simpa using h.big, by show (q.mt.set i x).length = m; rw [List.length_set]; exact h.lm, h.lf, h.ll⟩
 have := IRow.set h.mr i (x : Int)
 rw [← nats_set] at this
 exact this
theorem CBr.setF (h : CBr base w gd gf gl gM gF gL gj m s vS sg q lp W) (i : Nat) (x : Int) : CBr base w gd gf gl gM gF gL gj m s vS sg ⟨q.mt, q.fi.set i x, q.la⟩ lp (W.setCell ⟨gF, i, none⟩ (.int .i64 x)) := by
 have nd := h.nd
 simp only [List.nodup_cons, List.mem_cons, not_or, List.not_mem_nil, not_false_iff, and_true, List.nodup_nil] at nd
 obtain ⟨⟨a1, a2, a3, a4, a5, a6⟩, ⟨b2, b3, b4, b5, b6⟩, ⟨c3, c4, c5, c6⟩, ⟨d4, d5, d6⟩, ⟨e5, e6⟩, f6⟩ := nd
 have lo := h.lo gF (by simp)
 exact ⟨h.d.other (show _ ≠ gF from a4) _, Row.other h.mr (show _ ≠ gF from d4) _, h.fb.other (show _ ≠ gF from b4) _, h.lb.other (show _ ≠ gF from c4) _, IRow.set h.fr i x, Row.other h.lr (show _ ≠ gF from fun e => e5 e.symm) _, h.jb.other (show _ ≠ gF from fun e => e6 e.symm) _, ownsRow_setCell_below h.own (by show gF < base; omega) _, h.nd, h.lo, h.bel.setCell (by show _ ≤ gF; omega) _, by simpa using h.big, h.lm, by show (q.fi.set i x).length = s; rw [List.length_set]; exact h.lf, h.ll⟩
theorem CBr.setL (h : CBr base w gd gf gl gM gF gL gj m s vS sg q lp W) (i : Nat) (x : Int) : CBr base w gd gf gl gM gF gL gj m s vS sg ⟨q.mt, q.fi, q.la.set i x⟩ lp (W.setCell ⟨gL, i, none⟩ (.int .i64 x)) := by
 have nd := h.nd
 simp only [List.nodup_cons, List.mem_cons, not_or, List.not_mem_nil, not_false_iff, and_true, List.nodup_nil] at nd
 obtain ⟨⟨a1, a2, a3, a4, a5, a6⟩, ⟨b2, b3, b4, b5, b6⟩, ⟨c3, c4, c5, c6⟩, ⟨d4, d5, d6⟩, ⟨e5, e6⟩, f6⟩ := nd
 have lo := h.lo gL (by simp)
 exact ⟨h.d.other (show _ ≠ gL from a5) _, Row.other h.mr (show _ ≠ gL from d5) _, h.fb.other (show _ ≠ gL from b5) _, h.lb.other (show _ ≠ gL from c5) _, Row.other h.fr (show _ ≠ gL from e5) _, IRow.set h.lr i x, h.jb.other (show _ ≠ gL from fun e => f6 e.symm) _, ownsRow_setCell_below h.own (by show gL < base; omega) _, h.nd, h.lo, h.bel.setCell (by show _ ≤ gL; omega) _, by simpa using h.big, h.lm, h.lf, by show (q.la.set i x).length = s; rw [List.length_set]; exact h.ll⟩
theorem CBr.setD (h : CBr base w gd gf gl gM gF gL gj m s vS sg q lp W) (lp' : Nat) : CBr base w gd gf gl gM gF gL gj m s vS sg q lp' (W.setCell ⟨gd, 2, none⟩ (.int .i64 (lp' : Int))) := by
 have nd := h.nd
 simp only [List.nodup_cons, List.mem_cons, not_or, List.not_mem_nil, not_false_iff, and_true, List.nodup_nil] at nd
 obtain ⟨⟨a1, a2, a3, a4, a5, a6⟩, ⟨b2, b3, b4, b5, b6⟩, ⟨c3, c4, c5, c6⟩, ⟨d4, d5, d6⟩, ⟨e5, e6⟩, f6⟩ := nd
 have lo := h.lo gd (by simp)
 exact ⟨h.d.set 2 (.int .i64 (lp' : Int)), Row.other h.mr (show _ ≠ gd from fun e => a3 e.symm) _, h.fb.other (show _ ≠ gd from fun e => a1 e.symm) _, h.lb.other (show _ ≠ gd from fun e => a2 e.symm) _, Row.other h.fr (show _ ≠ gd from fun e => a4 e.symm) _, Row.other h.lr (show _ ≠ gd from fun e => a5 e.symm) _, h.jb.other (show _ ≠ gd from fun e => a6 e.symm) _, ownsRow_setCell_below h.own (by show gd < base; omega) _, h.nd, h.lo, h.bel.setCell (by show _ ≤ gd; omega) _, by simpa using h.big, h.lm, h.lf, h.ll⟩
/-- The blocks from base on have stayed. -/
def FrB (base : Nat) (W W' : World) : Prop := ∀ g, base ≤ g → W'.heap[g]? = W.heap[g]?
theorem FrB.refl (base : Nat) (W : World) : FrB base W W := fun _ _ => rfl
theorem FrB.set {base : Nat} {W W' : World} (h : FrB base W W') {g : Nat} (hg : g < base) (i : Nat) (v : Value) : FrB base W (W'.setCell ⟨g, i, none⟩ v) := fun k hk => (Below.heap_setCell W' ⟨g, i, none⟩ v k (by show k ≠ g; omega)).trans (h k hk)
theorem FrB.drew {base : Nat} {W W' : World} (h : FrB base W W') : FrB base W W'.drew := h
theorem FrB.row {base : Nat} {W W' : World} (h : FrB base W W') {g : Nat} {t : TypeId} {vs : List Value} (hr : Row W g t vs) (hg : base ≤ g) : Row W' g t vs := (h g hg).trans hr
/-- One sign more. -/
theorem CBr.app (h : CBr base w gd gf gl gM gF gL gj m s vS sg q lp W) {g c : Nat} {x : Int} (own : W'.ownsRow base 3 1 (.slice (some ⟨g, 0, none⟩) (sg.length + 1) c) (sg.length + 1) (sg.map (.int .i64) ++ [.int .i64 x])) (gr : W.grownBy W' vS.ownBlock) :
 CBr base w gd gf gl gM gF gL gj m s (.slice (some ⟨g, 0, none⟩) (sg.length + 1) c) (sg ++ [x]) q lp (W'.setCell ⟨gd, 0, none⟩ (.slice (some ⟨g, 0, none⟩) (sg.length + 1) c)) := by
 have nd := h.nd
 simp only [List.nodup_cons, List.mem_cons, not_or, List.not_mem_nil, not_false_iff, and_true, List.nodup_nil] at nd
 obtain ⟨⟨a1, a2, a3, a4, a5, a6⟩, ⟨b2, b3, b4, b5, b6⟩, ⟨c3, c4, c5, c6⟩, ⟨d4, d5, d6⟩, ⟨e5, e6⟩, f6⟩ := nd
 have ne : ∀ k, k ∈ [gd, gf, gl, gM, gF, gL, gj] → some k ≠ vS.ownBlock := fun k hk e => by
  have h1 := (h.own.lt _ e.symm).1
  have h2 := (h.lo k hk).2
  omega
 have lo := h.lo gd (by simp)
 have hb : Below w.heap.size w W' := h.bel.grown gr h.bel.size (fun k hk => by have := (h.own.lt k hk).1; omega)
 have hbig : base ≤ W'.heap.size := Nat.le_trans h.big gr.size
 refine ⟨(h.d.grown gr (ne _ (by simp))).set 0 _, Row.other (Row.grown h.mr gr (ne _ (by simp))) (show _ ≠ gd from fun e => a3 e.symm) _, (h.fb.grown gr (ne _ (by simp))).other (show _ ≠ gd from fun e => a1 e.symm) _, (h.lb.grown gr (ne _ (by simp))).other (show _ ≠ gd from fun e => a2 e.symm) _, Row.other (Row.grown h.fr gr (ne _ (by simp))) (show _ ≠ gd from fun e => a4 e.symm) _, Row.other (Row.grown h.lr gr (ne _ (by simp))) (show _ ≠ gd from fun e => a5 e.symm) _, (h.jb.grown gr (ne _ (by simp))).other (show _ ≠ gd from fun e => a6 e.symm) _, ?_, h.nd, h.lo, hb.setCell (by show _ ≤ gd; omega) _, by simpa using hbig, h.lm, h.lf, h.ll⟩
 have e1 : (sg ++ [x]).length = sg.length + 1 := by simp
 rw [e1, List.map_append]
 exact ownsRow_setCell_below own (by show gd < base; omega) _
end
set_option maxRecDepth 100000 in
set_option maxHeartbeats 2000000 in
theorem cjoin_any {base : Nat} {w W : World} {gd gf gl gM gF gL gj m s : Nat} {vS : Value} {sg : List Int} {q : Pl.ClS} {lp : Nat} (h : CBr base w gd gf gl gM gF gL gj m s vS sg q lp W) (a b : Nat) (ha : a < m) (hb : b < m) (hm : m ≤ 1000) :
 Calls Tryd.prog 36 #[.int .i64 (a : Int), .int .i64 (b : Int), .pointer (some ⟨gd, 0, none⟩)] W fun e W' => (∃ v, e = .returned v) ∧ CBr base w gd gf gl gM gF gL gj m s vS sg ⟨Pl.jnn q.mt a b, q.fi, q.la⟩ lp W' ∧ FrB base W W' := by
 have H := hide h
 obtain ⟨d0, d1, d2, d3⟩ := box3 h.d
 have c1 := IRow.cell h.mr (i := a) (by rw [nats_len, h.lm]; exact ha)
 have c2 := IRow.cell h.mr (i := b) (by rw [nats_len, h.lm]; exact hb)
 have f1 := Row.free h.mr
 have c3 := IRow.cell (h.setM a b).mr (i := b) (by rw [nats_len, (h.setM a b).lm]; exact hb)
 have c4 := IRow.cell (h.setM b a).mr (i := a) (by rw [nats_len, (h.setM b a).lm]; exact ha)
 obtain ⟨_, e1, _, _⟩ := box3 (h.setM a b).d
 obtain ⟨_, e2, _, _⟩ := box3 (h.setM b a).d
 have a0 : (0 : Int) ≤ (a : Int) := by omega
 have a1 : (a : Int) < (m : Int) := by omega
 have b0 : (0 : Int) ≤ (b : Int) := by omega
 have b1 : (b : Int) < (m : Int) := by omega
 clear h
 go_enter Tryd.func36, Tryd.ntmps36
 go_region
 all_goals (go_wp2_with fail)
 all_goals exact bodyPost_end (by simp [results, Tryd.results36, go_sem]; rfl) rfl ⟨⟨_, rfl⟩, ((H.out.setM a b).setM b a).below (Below.refl _ _).drew, (((FrB.refl base W).set (H.out.lo gM (by simp)).2 _ _).set (H.out.lo gM (by simp)).2 _ _).drew⟩
set_option maxRecDepth 100000 in
set_option maxHeartbeats 2000000 in
theorem cpass_any {base : Nat} {w W : World} {gd gf gl gM gF gL gj m s : Nat} {vS : Value} {sg : List Int} {q : Pl.ClS} {lp : Nat} (h : CBr base w gd gf gl gM gF gL gj m s vS sg q lp W) (p i o : Nat) (hp : p < s) (hi : i < m) (ho : o < m) (hm : m ≤ 1000) (hs : s ≤ 10) (hla : q.la.getD p (-1) < (m : Int)) :
 Calls Tryd.prog 37 #[.int .i64 (p : Int), .int .i64 (i : Int), .int .i64 (o : Int), .pointer (some ⟨gl, 0, none⟩), .pointer (some ⟨gf, 0, none⟩), .pointer (some ⟨gj, 0, none⟩)] W fun e W' => (∃ v, e = .returned v) ∧ CBr base w gd gf gl gM gF gL gj m s vS sg (Pl.clPass q p i o) lp W' ∧ FrB base W W' := by
 have H := hide h
 have l0 := h.lb.cell (i := 0) (by simp)
 have f0 := h.fb.cell (i := 0) (by simp)
 have j0 := h.jb.cell (i := 0) (by simp)
 have c1 := IRow.cell h.lr (i := p) (by rw [h.ll]; exact hp)
 have c2 := IRow.cell h.fr (i := p) (by rw [h.lf]; exact hp)
 have f1 := Row.free h.lr
 have f2 := Row.free h.fr
 have p0 : (0 : Int) ≤ (p : Int) := by omega
 have p1 : (p : Int) < (s : Int) := by omega
 have HP := hide (show Pl.pv q.la p = q.la.getD p (-1) by
  unfold Pl.pv
  rw [List.getD_eq_getElem?_getD, List.getD_eq_getElem?_getD, List.getElem?_eq_getElem (by rw [h.ll]; exact hp)]
  rfl)
 rw [HP.out] at c1
 obtain ⟨x, hx⟩ : ∃ x, x = q.la.getD p (-1) := ⟨_, rfl⟩
 rw [← hx] at c1 hla
 have HX := hide hx
 clear h hx
 simp only [List.getElem_cons_zero] at l0 f0 j0
 by_cases hx0 : x < 0
 ·have HE := hide (show Pl.clPass q p i o = ⟨q.mt, q.fi.set p (i : Int), q.la.set p (o : Int)⟩ by unfold Pl.clPass; rw [if_pos (by rw [← HX.out]; exact hx0)])
  have H1 := hide (H.out.setF p (i : Int))
  have l1 := H1.out.lb.cell (i := 0) (by simp)
  have c3 := IRow.cell H1.out.lr (i := p) (by rw [H1.out.ll]; exact hp)
  have f3 := Row.free H1.out.lr
  simp only [List.getElem_cons_zero] at l1
  go_enter Tryd.func37, Tryd.ntmps37
  go_wp2_with fail
  exact bodyPost_end (by simp [results, Tryd.results37, go_sem]; rfl) rfl ⟨⟨_, rfl⟩, by rw [HE.out]; exact H1.out.setL p (o : Int), ((FrB.refl base W).set (H.out.lo gF (by simp)).2 _ _).set (H.out.lo gL (by simp)).2 _ _⟩
 ·obtain ⟨a, rfl⟩ := Int.eq_ofNat_of_zero_le (show 0 ≤ x by omega)
  have ham : a < m := by omega
  have HE := hide (show Pl.clPass q p i o = ⟨Pl.jnn q.mt a i, q.fi, q.la.set p (o : Int)⟩ by
   unfold Pl.clPass
   rw [if_neg (by rw [← HX.out]; exact hx0), ← HX.out]
   rfl)
  have HD := hide (H.out.below (Below.refl W.heap.size W).drew)
  go_enter Tryd.func37, Tryd.ntmps37
  go_upto_region 2 with fail
  go_still_tail 6, (by kernel_rfl)
  change wpList _ _ _ _ _ W.drew
  obtain ⟨W6, hW6⟩ : ∃ W6 : World, W6 = W.drew := ⟨_, rfl⟩
  rw [← hW6] at HD ⊢
  have HFR := hide (show FrB base W W6 by rw [hW6]; exact FrB.refl base W)
  clear hW6 l0 f0 j0 c1 c2 f1 f2
  go_wp2_with fail
  refine (cjoin_any HD.out a i ham hi hm).mono ?_
  rintro e W2 ⟨⟨v, rfl⟩, hc, hfr⟩
  have H2 := hide hc
  have HFR2 := hide (show FrB base W W2 from fun k hk => (hfr k hk).trans (HFR.out k hk))
  have l1 := H2.out.lb.cell (i := 0) (by simp)
  have c3 := IRow.cell H2.out.lr (i := p) (by rw [H2.out.ll]; exact hp)
  have f3 := Row.free H2.out.lr
  simp only [List.getElem_cons_zero] at l1
  clear hc hfr
  go_wp2_with fail
  exact bodyPost_end (by simp [results, Tryd.results37, go_sem]; rfl) rfl ⟨⟨_, rfl⟩, by rw [HE.out]; exact H2.out.setL p (o : Int), HFR2.out.set (H.out.lo gL (by simp)).2 _ _⟩
theorem cpass_int {base : Nat} {w W : World} {gd gf gl gM gF gL gj m s : Nat} {vS : Value} {sg : List Int} {q : Pl.ClS} {lp : Nat} (h : CBr base w gd gf gl gM gF gL gj m s vS sg q lp W) (p i o : Nat) (x y z : Int) (ex : x = (p : Int)) (ey : y = (i : Int)) (ez : z = (o : Int)) (hp : p < s) (hi : i < m) (ho : o < m) (hm : m ≤ 1000) (hs : s ≤ 10) (hla : q.la.getD p (-1) < (m : Int)) :
 Calls Tryd.prog 37 #[.int .i64 x, .int .i64 y, .int .i64 z, .pointer (some ⟨gl, 0, none⟩), .pointer (some ⟨gf, 0, none⟩), .pointer (some ⟨gj, 0, none⟩)] W fun e W' => (∃ v, e = .returned v) ∧ CBr base w gd gf gl gM gF gL gj m s vS sg (Pl.clPass q p i o) lp W' ∧ FrB base W W' := by
 subst ex ey ez
 exact cpass_any h p i o hp hi ho hm hs hla
end Go.Proofs.YtcaoblilkgajoaaDoor
end
section
namespace Go.Proofs.YtcaoblilkgajoaaDoor
open Go Go.RowKit
attribute [local go_sem ↓] Go.wp_at_zero Go.wp_at_succ
/-- While first and last are filled. -/
structure C1 (V0 : World) (gd gf gl gM gF gL m s : Nat) (fi la : List Int) (W : World) : Prop where
 d : Row W gd 28 [.slice none 0 0, .slice (some ⟨gM, 0, none⟩) m m, .int .i64 0]
 mr : IRow W gM (nats (List.replicate m 0))
 fb : Row W gf 22 [.slice (some ⟨gF, 0, none⟩) s s]
 lb : Row W gl 22 [.slice (some ⟨gL, 0, none⟩) s s]
 fr : IRow W gF fi
 lr : IRow W gL la
 nd : [gd, gf, gl, gM, gF, gL].Nodup
 lo : ∀ g, g ∈ [gd, gf, gl, gM, gF, gL] → V0.heap.size ≤ g
 bel : Below V0.heap.size V0 W
section
variable {V0 W W' : World} {gd gf gl gM gF gL m s : Nat} {fi la : List Int}
theorem C1.below (h : C1 V0 gd gf gl gM gF gL m s fi la W) (hb : Below W.heap.size W W') : C1 V0 gd gf gl gM gF gL m s fi la W' :=
 ⟨h.d.below hb, Row.below h.mr hb, h.fb.below hb, h.lb.below hb, Row.below h.fr hb, Row.below h.lr hb, h.nd, h.lo, h.bel.trans (hb.mono h.bel.size)⟩
theorem C1.setF (h : C1 V0 gd gf gl gM gF gL m s fi la W) (i : Nat) (x : Int) : C1 V0 gd gf gl gM gF gL m s (fi.set i x) la (W.setCell ⟨gF, i, none⟩ (.int .i64 x)) := by
 have nd := h.nd
 simp only [List.nodup_cons, List.mem_cons, not_or, List.not_mem_nil, not_false_iff, and_true, List.nodup_nil] at nd
 obtain ⟨⟨a1, a2, a3, a4, a5⟩, ⟨b2, b3, b4, b5⟩, ⟨c3, c4, c5⟩, ⟨d4, d5⟩, e5⟩ := nd
 have lo := h.lo gF (by simp)
 exact ⟨h.d.other (show _ ≠ gF from a4) _, Row.other h.mr (show _ ≠ gF from d4) _, h.fb.other (show _ ≠ gF from b4) _, h.lb.other (show _ ≠ gF from c4) _, IRow.set h.fr i x, Row.other h.lr (show _ ≠ gF from fun e => e5 e.symm) _, h.nd, h.lo, h.bel.setCell (by show _ ≤ gF; omega) _⟩
theorem C1.setL (h : C1 V0 gd gf gl gM gF gL m s fi la W) (i : Nat) (x : Int) : C1 V0 gd gf gl gM gF gL m s fi (la.set i x) (W.setCell ⟨gL, i, none⟩ (.int .i64 x)) := by
 have nd := h.nd
 simp only [List.nodup_cons, List.mem_cons, not_or, List.not_mem_nil, not_false_iff, and_true, List.nodup_nil] at nd
 obtain ⟨⟨a1, a2, a3, a4, a5⟩, ⟨b2, b3, b4, b5⟩, ⟨c3, c4, c5⟩, ⟨d4, d5⟩, e5⟩ := nd
 have lo := h.lo gL (by simp)
 exact ⟨h.d.other (show _ ≠ gL from a5) _, Row.other h.mr (show _ ≠ gL from d5) _, h.fb.other (show _ ≠ gL from b5) _, h.lb.other (show _ ≠ gL from c5) _, Row.other h.fr (show _ ≠ gL from e5) _, IRow.set h.lr i x, h.nd, h.lo, h.bel.setCell (by show _ ≤ gL; omega) _⟩
end
theorem heap4 (V : World) (o0 o1 o2 o3 : Obj) : ((((V.alloc o0).alloc o1).alloc o2).alloc o3).drew.heap[V.heap.size]? = some o0 ∧ ((((V.alloc o0).alloc o1).alloc o2).alloc o3).drew.heap[V.heap.size + 1]? = some o1 ∧ ((((V.alloc o0).alloc o1).alloc o2).alloc o3).drew.heap[V.heap.size + 1 + 1]? = some o2 ∧ ((((V.alloc o0).alloc o1).alloc o2).alloc o3).drew.heap[V.heap.size + 1 + 1 + 1]? = some o3 := by
 have e : ((((V.alloc o0).alloc o1).alloc o2).alloc o3).drew.heap = (((V.heap.push o0).push o1).push o2).push o3 := rfl
 rw [e]
 have k : ∀ (a : Array Obj) (o : Obj) (i : Nat), (a.push o)[i]? = if i = a.size then some o else a[i]? := fun a o i => Array.getElem?_push
 refine ⟨?_, ?_, ?_, ?_⟩
 ·rw [k, if_neg (by simp only [Array.size_push]; omega), k, if_neg (by simp only [Array.size_push]; omega), k, if_neg (by simp only [Array.size_push]; omega), k, if_pos rfl]
 ·rw [k, if_neg (by simp only [Array.size_push]; omega), k, if_neg (by simp only [Array.size_push]; omega), k, if_pos (by simp only [Array.size_push])]
 ·rw [k, if_neg (by simp only [Array.size_push]; omega), k, if_pos (by simp only [Array.size_push])]
 ·rw [k, if_pos (by simp only [Array.size_push])]
theorem below4 (V : World) (o0 o1 o2 o3 : Obj) : Below V.heap.size V ((((V.alloc o0).alloc o1).alloc o2).alloc o3).drew :=
 (((((Below.refl _ _).alloc (Nat.le_refl _) o0).alloc (by simp) o1).alloc (by simp; omega) o2).alloc (by simp; omega) o3).drew
theorem c1_mk {V0 V1 W : World} {gf gl gF gL m q : Nat} (D : Row V1 (V0.heap.size + 1) 28 [.slice none 0 0, .slice (some ⟨V0.heap.size, 0, none⟩) m m, .int .i64 0]) (M : IRow V1 V0.heap.size (nats (List.replicate m 0))) (hB : Below V0.heap.size V0 V1) (hs : V1.heap.size = V0.heap.size + 2)
 (hf : W.heap[gf]? = some (.cells #[.slice (some ⟨gF, 0, none⟩) q q] 22)) (hl : W.heap[gl]? = some (.cells #[.slice (some ⟨gL, 0, none⟩) q q] 22)) (hF : W.heap[gF]? = some (.cells (Array.replicate q (Value.int .i64 0)) 3)) (hL : W.heap[gL]? = some (.cells (Array.replicate q (Value.int .i64 0)) 3))
 (hb : Below V1.heap.size V1 W) (hn : gf ≠ gl ∧ gf ≠ gF ∧ gf ≠ gL ∧ gl ≠ gF ∧ gl ≠ gL ∧ gF ≠ gL) (hlo : V1.heap.size ≤ gf ∧ V1.heap.size ≤ gl ∧ V1.heap.size ≤ gF ∧ V1.heap.size ≤ gL) :
 C1 V0 (V0.heap.size + 1) gf gl V0.heap.size gF gL m q (List.replicate q 0) (List.replicate q 0) W := by
 have hr : ∀ g, W.heap[g]? = some (.cells (Array.replicate q (Value.int .i64 0)) 3) → IRow W g (List.replicate q 0) := fun g h => by
  show W.heap[g]? = _
  rw [h]
  simp
 obtain ⟨n1, n2, n3, n4, n5, n6⟩ := hn
 obtain ⟨l1, l2, l3, l4⟩ := hlo
 refine ⟨D.below hb, Row.below M hb, hf, hl, hr _ hF, hr _ hL, ?_, fun g hg => ?_, hB.trans (hb.mono hB.size)⟩
 ·simp only [List.nodup_cons, List.mem_cons, not_or, List.not_mem_nil, not_false_iff, and_true, List.nodup_nil]
  refine ⟨⟨by omega, by omega, by omega, by omega, by omega⟩, ⟨n1, by omega, n2, n3⟩, ⟨by omega, n4, n5⟩, ⟨by omega, by omega⟩, n6⟩
 ·simp only [List.mem_cons, List.not_mem_nil, or_false] at hg
  rcases hg with rfl | rfl | rfl | rfl | rfl | rfl <;> omega
theorem C1.toCB {V0 W : World} {gd gf gl gM gF gL m q : Nat} {ws : List Int} (h : C1 V0 gd gf gl gM gF gL m q (List.replicate q (-1)) (List.replicate q (-1)) W) (hm : m = 4 * ws.length) :
 CBr (W.heap.size + 1) V0 gd gf gl gM gF gL W.heap.size m q (.slice none 0 0) [] (Pl.clK q ws 0) 0 (W.alloc (.cells #[.func (.func 36) #[] #[.pointer (some ⟨gd, 0, none⟩)]] 61)) := by
 have l0 := h.d.lt
 have l1 := h.fb.lt
 have l2 := h.lb.lt
 have l3 := Row.lt h.mr
 have l4 := Row.lt h.fr
 have l5 := Row.lt h.lr
 have hv := h.bel.size
 subst hm
 refine ⟨h.d.alloc _, Row.alloc h.mr _, h.fb.alloc _, h.lb.alloc _, Row.alloc h.fr _, Row.alloc h.lr _, row_at (vs := [.func (.func 36) #[] #[.pointer (some ⟨gd, 0, none⟩)]]) rfl, World.ownsRow_nil _ _ _ _, ?_, fun g hg => ?_, h.bel.alloc hv _, by simp, by simp [Pl.clK], by simp [Pl.clK], by simp [Pl.clK]⟩
 ·have nd := h.nd
  simp only [List.nodup_cons, List.mem_cons, not_or, List.not_mem_nil, not_false_iff, and_true, List.nodup_nil] at nd ⊢
  obtain ⟨⟨a1, a2, a3, a4, a5⟩, ⟨b2, b3, b4, b5⟩, ⟨c3, c4, c5⟩, ⟨d4, d5⟩, e5⟩ := nd
  exact ⟨⟨a1, a2, a3, a4, a5, by omega⟩, ⟨b2, b3, b4, b5, by omega⟩, ⟨c3, c4, c5, by omega⟩, ⟨d4, d5, by omega⟩, ⟨e5, by omega⟩, by omega⟩
 ·simp only [List.mem_cons, List.not_mem_nil, or_false] at hg
  have lo := h.lo
  rcases hg with rfl | rfl | rfl | rfl | rfl | rfl | rfl
  ·exact ⟨lo _ (by simp), by omega⟩
  ·exact ⟨lo _ (by simp), by omega⟩
  ·exact ⟨lo _ (by simp), by omega⟩
  ·exact ⟨lo _ (by simp), by omega⟩
  ·exact ⟨lo _ (by simp), by omega⟩
  ·exact ⟨lo _ (by simp), by omega⟩
  ·exact ⟨hv, by omega⟩
/-- What Closure answers. -/
def ClosePost (s : Int) (ws : List Int) (w : World) (e : Ending) (w' : World) : Prop :=
 (¬ Pl.BV s ws → e = .returned (.tuple #[.agg #[.slice none 0 0, .slice none 0 0, .int .i64 0], .int .i64 1])) ∧
 (Pl.BV s ws → ∃ (S B : Option Addr) (c : Nat), e = .returned (.tuple #[.agg #[.slice S ws.length c, .slice B (4 * ws.length) (4 * ws.length), .int .i64 ((Pl.clD s.toNat ws).lp : Int)], .int .i64 0]) ∧ DgAt w' S B (Pl.clD s.toNat ws)) ∧ Below w.heap.size w w'
theorem close_fin {base : Nat} {w V0 W : World} {gd gf gl gM gF gL gj m q c4 lp : Nat} {A4 : Option Addr} {ws fi la : List Int} {mt : List Nat} (K : CBr base V0 gd gf gl gM gF gL gj m q (.slice A4 (Pl.clSg ws).length c4) (Pl.clSg ws) ⟨mt, fi, la⟩ lp W) (hV : w.heap.size + 1 < V0.heap.size) (hB : Below w.heap.size w V0) (hm : m = 4 * ws.length) (hmt : mt = (Pl.clEnd (Pl.clK q ws ws.length) q).1) (hlp : lp = (Pl.clEnd (Pl.clK q ws ws.length) q).2) (hv : Pl.BV (q : Int) ws) (y0 y1 y2 : Value) :
 ClosePost (q : Int) ws w (.returned (.tuple #[.agg #[.slice A4 (Pl.clSg ws).length c4, .slice (some ⟨gM, 0, none⟩) m m, .int .i64 (lp : Int)], .int .i64 0])) (((W.setCell ⟨w.heap.size + 1, 0, none⟩ y0).setCell ⟨w.heap.size + 1, 1, none⟩ y1).setCell ⟨w.heap.size + 1, 2, none⟩ y2) := by
 have hl : (Pl.clSg ws).length = ws.length := by unfold Pl.clSg; simp
 have h1 := (K.lo gM (by simp)).1
 have h2 := (K.lo gd (by simp)).2
 have h3 := (K.lo gd (by simp)).1
 refine ⟨fun h => absurd hv h, fun _ => ⟨A4, some ⟨gM, 0, none⟩, c4, ?_, ?_⟩, ?_⟩
 ·rw [hl, hm, hlp]
  rfl
 ·refine ⟨?_, ?_⟩
  ·exact (own_rowT (ownsRow_setCell_below (ownsRow_setCell_below (ownsRow_setCell_below K.own (by show w.heap.size + 1 < base; omega) _) (by show w.heap.size + 1 < base; omega) _) (by show w.heap.size + 1 < base; omega) _)).row
  ·have hr : IRow (((W.setCell ⟨w.heap.size + 1, 0, none⟩ y0).setCell ⟨w.heap.size + 1, 1, none⟩ y1).setCell ⟨w.heap.size + 1, 2, none⟩ y2) gM (nats mt) := Row.other (Row.other (Row.other K.mr (by show _ ≠ w.heap.size + 1; omega) _) (by show _ ≠ w.heap.size + 1; omega) _) (by show _ ≠ w.heap.size + 1; omega) _
   have h4 := hr.ints
   rw [nats_len] at h4
   have h5 : mt.length = m := K.lm
   rw [h5, hm] at h4
   have e : 4 * (Pl.clD (q : Int).toNat ws).n = 4 * ws.length := by show 4 * (Pl.clSg ws).length = _; rw [hl]
   rw [e]
   have e2 : (Pl.clD (q : Int).toNat ws).mt = mt := by rw [hmt]; rfl
   rw [e2]
   exact h4
 ·exact (((hB.trans (K.bel.mono hB.size)).setCell (by show _ ≤ w.heap.size + 1; omega) _).setCell (by show _ ≤ w.heap.size + 1; omega) _).setCell (by show _ ≤ w.heap.size + 1; omega) _
set_option maxRecDepth 100000 in
set_option maxHeartbeats 8000000 in
theorem closure_any (s : Int) (ws : List Int) (A : Option Addr) (n c : Nat) (w : World) (hw : IntsAt w A n ws) (hn : n ≤ 64) :
 Calls Tryd.prog 12 #[.agg #[.int .i64 s, .slice A n c]] w (ClosePost s ws w) := by
 have HL := hide hw.len
 have HW := hide hw
 clear hw
 have X0 := hide ((row_at (W := w) (g := w.heap.size) (t := 24) (vs := [.int .i64 s, .slice A n c]) rfl).below ((Below.refl _ _).alloc (Nat.le_refl _) (.cells #[.slice none 0 0, .slice none 0 0, .int .i64 0] 28)))
 have R0 := hide (row_at (W := w.alloc (.cells #[.int .i64 s, .slice A n c] 24)) (g := w.heap.size + 1) (t := 28) (vs := [.slice none 0 0, .slice none 0 0, .int .i64 0]) (by simp))
 have B0 := hide (show Below w.heap.size w ((w.alloc (.cells #[.int .i64 s, .slice A n c] 24)).alloc (.cells #[.slice none 0 0, .slice none 0 0, .int .i64 0] 28)) from ((Below.refl _ _).alloc (Nat.le_refl _) _).alloc (by simp) _)
 obtain ⟨d0, d1, d2⟩ := box2b X0.out
 go_enter Tryd.func12, Tryd.ntmps12
 go_wp2_with fail
 refine (bvalid_any s ws A n c _ (HW.out.keep B0.out) (by unfold maxLen; omega)).mono ?_
 rintro e w1 ⟨rfl, hb1⟩
 have B1 := hide (B0.out.trans (hb1.mono B0.out.size))
 have X1 := hide (X0.out.below hb1)
 have R1 := hide (R0.out.below hb1)
 clear X0 R0 B0 hb1 d0 d1 d2
 obtain ⟨d0, d1, d2⟩ := box2b X1.out
 by_cases hv : Pl.BV s ws
 ·rw [Pl.vb_true hv]
  have HV := hide hv
  have HOK := hide hv.ok
  obtain ⟨q, hq⟩ : ∃ q : Nat, s = (q : Int) := ⟨s.toNat, by have := hv.1; omega⟩
  have hq1 : 1 ≤ q := by have := hv.1; omega
  have hq10 : q ≤ 10 := by have := hv.2.1; omega
  subst hq
  rw [Int.toNat_natCast] at HOK
  clear hv
  have hn64 : ¬ ((64 : Int) < (n : Int)) := by omega
  have hmk4 : ∀ W : World, (Instr.makeSlice 22 (.int .i64 (4 * (n : Int))) (.int .i64 (4 * (n : Int)))).run Tryd.prog W = .ok (.slice (some ⟨W.heap.size, 0, none⟩) (4 * n) (4 * n)) (W.alloc (.cells (Array.replicate (4 * n) (Value.int .i64 0)) 3)) := fun W => by
   have h := run_ints (4 * n) (by omega) W
   rw [show ((4 * n : Nat) : Int) = 4 * (n : Int) by omega] at h
   exact h
  have hmkq := fun W : World => run_ints q (by omega) W
  go_upto_region 6 with fail
  obtain ⟨V0, hV0⟩ : ∃ V0, V0 = w1.alloc (.cells #[.int .i64 0, .int .i64 1, .int .i64 2, .int .i64 3, .int .i64 3, .int .i64 0, .int .i64 1, .int .i64 2] 60) := ⟨_, rfl⟩
  have S1 := hide (show Row V0 w1.heap.size 60 [.int .i64 0, .int .i64 1, .int .i64 2, .int .i64 3, .int .i64 3, .int .i64 0, .int .i64 1, .int .i64 2] by rw [hV0]; exact row_at rfl)
  have X2 := hide (show Row V0 w.heap.size 24 [.int .i64 (q : Int), .slice A n c] by rw [hV0]; exact X1.out.alloc _)
  have R2 := hide (show Row V0 (w.heap.size + 1) 28 [.slice none 0 0, .slice none 0 0, .int .i64 0] by rw [hV0]; exact R1.out.alloc _)
  have B2 := hide (show Below w.heap.size w V0 by rw [hV0]; exact B1.out.alloc B1.out.size _)
  obtain ⟨gs, hgs⟩ : ∃ g, g = w1.heap.size := ⟨_, rfl⟩
  rw [← hgs] at S1
  rw [← hV0, ← hgs]
  clear hV0 hgs d0 d1 d2 B1 X1 R1
  obtain ⟨d0, d1, d2⟩ := box2b X2.out
  go_upto_region 7 with fail
  obtain ⟨V1, hV1⟩ : ∃ V1, V1 = (V0.alloc (.cells (Array.replicate (4 * n) (Value.int .i64 0)) 3)).alloc (.cells #[.slice none 0 0, .slice (some ⟨V0.heap.size, 0, none⟩) (4 * n) (4 * n), .int .i64 0] 28) := ⟨_, rfl⟩
  have hV1s : V1.heap.size = V0.heap.size + 2 := by rw [hV1]; simp
  have M1 := hide (show IRow V1 V0.heap.size (nats (List.replicate (4 * n) 0)) by
   rw [hV1]
   have h := Row.alloc (IRow.made V0 (4 * n)) (.cells #[.slice none 0 0, .slice (some ⟨V0.heap.size, 0, none⟩) (4 * n) (4 * n), .int .i64 0] 28)
   simpa [nats, IRow] using h)
  have D1 := hide (show Row V1 (V0.heap.size + 1) 28 [.slice none 0 0, .slice (some ⟨V0.heap.size, 0, none⟩) (4 * n) (4 * n), .int .i64 0] by rw [hV1]; exact row_at (by simp))
  have B3 := hide (show Below V0.heap.size V0 V1 by rw [hV1]; exact ((Below.refl _ _).alloc (Nat.le_refl _) _).alloc (by simp) _)
  have X3 := hide (X2.out.below B3.out)
  rw [← hV1]
  have HVS := hide hV1s
  clear hV1 hV1s d0 d1 d2
  obtain ⟨d0, d1, d2⟩ := box2b X3.out
  have hbx : w.heap.size < V1.heap.size := X3.out.lt
  have hbx1 : w.heap.size < V1.heap.size + 1 := by omega
  have hbx2 : w.heap.size < V1.heap.size + 1 + 1 := by omega
  have hbx3 : w.heap.size < V1.heap.size + 1 + 1 + 1 := by omega
  go_cut [6, 7] (fun s6 s7 wx => ∃ gf gl gF gL : Nat, s6 = .pointer (some ⟨gf, 0, none⟩) ∧ s7 = .pointer (some ⟨gl, 0, none⟩) ∧ C1 V0 (V0.heap.size + 1) gf gl V0.heap.size gF gL (4 * n) q (List.replicate q 0) (List.replicate q 0) wx)
  case first =>
   go_region
   all_goals (go_wp2_with fail; go_meet)
   all_goals
    refine ⟨_, _, ?_, ?_, rfl, rfl, c1_mk D1.out M1.out B3.out HVS.out ?_ ?_ ?_ ?_ (below4 _ _ _ _ _) ?_ ?_⟩
    rotate_left 2
    ·first | exact (heap4 _ _ _ _ _).1 | exact (heap4 _ _ _ _ _).2.1 | exact (heap4 _ _ _ _ _).2.2.1 | exact (heap4 _ _ _ _ _).2.2.2
    ·first | exact (heap4 _ _ _ _ _).1 | exact (heap4 _ _ _ _ _).2.1 | exact (heap4 _ _ _ _ _).2.2.1 | exact (heap4 _ _ _ _ _).2.2.2
    ·first | exact (heap4 _ _ _ _ _).1 | exact (heap4 _ _ _ _ _).2.1 | exact (heap4 _ _ _ _ _).2.2.1 | exact (heap4 _ _ _ _ _).2.2.2
    ·first | exact (heap4 _ _ _ _ _).1 | exact (heap4 _ _ _ _ _).2.1 | exact (heap4 _ _ _ _ _).2.2.1 | exact (heap4 _ _ _ _ _).2.2.2
    ·refine ⟨?_, ?_, ?_, ?_, ?_, ?_⟩ <;> omega
    ·refine ⟨?_, ?_, ?_, ?_⟩ <;> omega
  case rest =>
   clear hmk4 hmkq d0 d1 d2 hbx hbx1 hbx2 hbx3 M1 D1 B3 HVS X3
   obtain ⟨gf, gl, gF, gL, rfl, rfl, hc1⟩ := hcut
   have K1 := hide hc1
   clear hc1
   obtain ⟨gM, hgM⟩ : ∃ g, g = V0.heap.size := ⟨_, rfl⟩
   obtain ⟨gd, hgd⟩ : ∃ g, g = V0.heap.size + 1 := ⟨_, rfl⟩
   rw [← hgd, ← hgM] at K1
   rw [← hgd]
   clear hgd hgM
   obtain ⟨m, hm⟩ : ∃ m, m = 4 * n := ⟨_, rfl⟩
   rw [← hm] at K1
   have HM4 := hide hm
   have hm256 : m ≤ 256 := by omega
   clear hm
   have l0 := K1.out.fb.cell (i := 0) (by simp)
   simp only [List.getElem_cons_zero] at l0
   go_wp2_with fail
   go_loopg [8, 43] q (fun g s8 i wx => ∃ k : Nat, k + g = q ∧ i = .int .i64 (k : Int) ∧ C1 V0 gd gf gl gM gF gL m q (List.replicate k (-1) ++ List.replicate (q - k) 0) (List.replicate k (-1) ++ List.replicate (q - k) 0) wx)
   case atStart => exact ⟨0, by omega, rfl, by simpa using K1.out⟩
   case round =>
    clear K1 l0
    obtain ⟨k, hkg, rfl, hk⟩ := hrel
    have HKG := hide hkg
    have K1 := hide hk
    have hkq : k ≤ q := by omega
    clear hk hkg
    by_cases hk : k < q
    ·have hki : (k : Int) < (q : Int) := by omega
     have k0 : (0 : Int) ≤ (k : Int) := by omega
     have l0 := K1.out.fb.cell (i := 0) (by simp)
     have l1 := K1.out.lb.cell (i := 0) (by simp)
     have c1 := IRow.cell K1.out.fr (i := k) (by simp; omega)
     have c2 := IRow.cell K1.out.lr (i := k) (by simp; omega)
     have f1 := Row.free K1.out.fr
     have f2 := Row.free K1.out.lr
     have hKFst := hide (K1.out.setF k (-1))
     have hKLst := hide (K1.out.setL k (-1))
     have l2 := hKFst.out.lb.cell (i := 0) (by simp)
     have c3 := IRow.cell hKFst.out.lr (i := k) (by simp; omega)
     have l3 := hKLst.out.fb.cell (i := 0) (by simp)
     have c4 := IRow.cell hKLst.out.fr (i := k) (by simp; omega)
     simp only [List.getElem_cons_zero] at l0 l1 l2 l3
     go_upto_region 11 with fail
     go_region
     all_goals (go_wp2_with fail)
     all_goals (go_roundg (gk - 1))
     case measure => have := HKG.out; omega
     case rel =>
      refine ⟨k + 1, by have := HKG.out; omega, by go_num, ?_⟩
      have h := K1.out.setF k (-1)
      have h2 := (h.setL k (-1)).below (Below.refl _ _).drew
      rw [rep_step k q hk] at h2
      exact h2
    ·have hki : ¬ ((k : Int) < (q : Int)) := by omega
     have K2 := hide (show C1 V0 gd gf gl gM gF gL m q (List.replicate q (-1)) (List.replicate q (-1)) wr from by
      have h := K1.out
      rw [show k = q by omega, Nat.sub_self, List.replicate_zero, List.append_nil] at h
      exact h)
     have Q0 := hide (K2.out.toCB (ws := ws) (by rw [HM4.out, HL.out]))
     have X3 := hide (X2.out.below Q0.out.bel)
     clear K1 K2 HKG hkq
     go_upto_region 14 with fail
     clear hk hki
     obtain ⟨gj, hgj⟩ : ∃ g, g = wr.heap.size := ⟨_, rfl⟩
     obtain ⟨base, hbase⟩ : ∃ g, g = wr.heap.size + 1 := ⟨_, rfl⟩
     obtain ⟨V2, hV2⟩ : ∃ V, V = wr.alloc (.cells #[.func (.func 36) #[] #[.pointer (some ⟨gd, 0, none⟩)]] 61) := ⟨_, rfl⟩
     rw [← hV2, ← hbase, ← hgj] at Q0
     rw [← hV2] at X3
     rw [← hV2, ← hgj]
     clear hgj hbase hV2
     obtain ⟨d0, d1, d2⟩ := box2b X3.out
     go_wp2_with fail
     clear d0 d1 d2 X3
     go_loopg [11, 12, 13, 14, 15, 58] n (fun g s11 s12 s13 s14 s15 i wx => ∃ (k : Nat) (vS : Value), k + g = n ∧ i = .int .i64 (k : Int) ∧ CBr base V0 gd gf gl gM gF gL gj m q vS (Pl.clSg (ws.take k)) (Pl.clK q ws k) 0 wx)
     case atStart => exact ⟨0, _, by omega, rfl, Q0.out⟩
     case round =>
      clear Q0
      obtain ⟨k, vS, hkg, rfl, hk⟩ := hrel
      have HKG := hide hkg
      have K1 := hide hk
      have hkn : k ≤ n := by omega
      clear hk hkg
      obtain ⟨go, rfl⟩ : ∃ go, go = gk := ⟨_, rfl⟩
      by_cases hk : k < n
      ·have hki : (k : Int) < (n : Int) := by omega
       have k0 : (0 : Int) ≤ (k : Int) := by omega
       obtain ⟨b, o, rfl, x1⟩ := (HW.out.keep (B2.out.trans (K1.out.bel.mono B2.out.size))).at_ hk
       obtain ⟨x, hxm, hx, hxt⟩ := letter_at HL.out hk
       rw [hx] at x1
       have hlx := HOK.out x hxm
       have HQN := hide (show Pl.clK q ws (k + 1) = Pl.clStep (Pl.clK q ws k) k x by show Pl.clStep _ k (ws.getD k 0) = _; rw [hx])
       have HSN := hide (show Pl.clSg (ws.take (k + 1)) = Pl.clSg (ws.take k) ++ [if x < 0 then -1 else 1] by rw [hxt]; unfold Pl.clSg; rw [List.map_append]; rfl)
       have HB0 := hide (Pl.clK_b q ws k)
       have HLN := hide (Pl.clK_len q ws k)
       obtain ⟨sg, hsg⟩ : ∃ sg, sg = Pl.clSg (ws.take k) := ⟨_, rfl⟩
       have hsl : sg.length ≤ 64 := by rw [hsg]; unfold Pl.clSg; rw [List.length_map, List.length_take]; omega
       obtain ⟨qq, hqq⟩ : ∃ qq, qq = Pl.clK q ws k := ⟨_, rfl⟩
       rw [← hsg] at K1 HSN
       rw [← hqq] at K1 HQN HB0 HLN
       obtain ⟨mm, hmm⟩ : ∃ m, m = x.natAbs := ⟨_, rfl⟩
       have hm1 : 1 ≤ mm := by rw [hmm]; exact hlx.1
       have hm2 : mm < q := by rw [hmm]; exact hlx.2
       have hxb : -1000000 ≤ x ∧ x ≤ 1000000 := by omega
       have HMX := hide hmm
       clear hx hxt hxm hlx hsg hqq hmm
       obtain ⟨A4, c4, rfl⟩ := owns_slice K1.out.own
       obtain ⟨i0, hi0, hz0, hz1, hz2⟩ := info_parts intInfo
       obtain ⟨d0, d1, d2, d3⟩ := box3 K1.out.d
       by_cases hx0 : x < 0
       ·have KA := hide (K1.out.below ((Below.refl wr.heap.size wr).alloc (Nat.le_refl _) (.cells #[.int .i64 (-1)] 3)))
        have hgw : gd < wr.heap.size := K1.out.d.lt
        go_upto_region 22 with (at_builtin; refine wpList_append_lies _ (by rfl) _ _ 22 (by rfl) base 3 i0 (.int .i64 0) 1 8 Tryd.underlying22 hi0 hz0 hz1 hz2 rfl (by omega) _ sg.length _ (by rfl) KA.out.own ⟨wr.heap.size, 0, none⟩ 1 1 [.int .i64 (-1)] (by rfl) (by rfl) (one_news _ _) (by simp [Value.oneCell']) (by omega) (by unfold maxLen; omega) (by omega) KA.out.big (wr.heap.size + 1) (by simp) ?_; intro g3 c3 w3 own3 grow3 at3 lt3; obtain ⟨e0, e1, e2, e3⟩ := box3 (KA.out.d.grown grow3 (fun e => by have h1 := (KA.out.own.lt _ e.symm).1; have h2 := (KA.out.lo gd (by simp)).2; omega)); have K2 := hide (KA.out.app own3 grow3); clear own3 grow3 at3)
        obtain ⟨V3, hV3⟩ : ∃ V, V = w3.setCell ⟨gd, 0, none⟩ (.slice (some ⟨g3, 0, none⟩) (sg.length + 1) c3) := ⟨_, rfl⟩
        rw [← hV3] at K2 ⊢
        clear hV3 KA lt3 d0 d1 d2 d3 e0 e1 e2 e3 x1 hgw
        have S2 := hide (S1.out.below K2.out.bel)
        have s0 := S2.out.cell (i := 0) (by simp)
        have s1 := S2.out.cell (i := 1) (by simp)
        have s2 := S2.out.cell (i := 2) (by simp)
        have s3 := S2.out.cell (i := 3) (by simp)
        have s4 := S2.out.cell (i := 4) (by simp)
        have s5 := S2.out.cell (i := 5) (by simp)
        have s6 := S2.out.cell (i := 6) (by simp)
        have s7 := S2.out.cell (i := 7) (by simp)
        simp only [List.getElem_cons_zero, List.getElem_cons_succ] at s0 s1 s2 s3 s4 s5 s6 s7
        have hwr : IntKind.i64.wrap ((IntKind.i64.wrap 0).tdiv 2) = 0 := by rfl
        have hgs : gs < V3.heap.size := S2.out.lt
        have DG := hide (fun W : World => generator_any x W hxb)
        go_cut [14, 15] (fun s14 s15 wx => s14 = .pointer (some ⟨V3.heap.size, 0, none⟩) ∧ s15 = .int .i64 (x.natAbs : Int) ∧ wx = (V3.alloc (.cells #[.int .i64 0, .int .i64 1, .int .i64 2, .int .i64 3] 59)).drew)
        case first =>
         go_region_calls
         all_goals (go_wp2_with fail; go_meet)
         all_goals exact ⟨rfl, by rw [show max x (-x) = (x.natAbs : Int) by omega], rfl⟩
        case rest =>
        obtain ⟨rfl, rfl, hwc⟩ := hcut
        obtain ⟨gt, hgt⟩ : ∃ g, g = V3.heap.size := ⟨_, rfl⟩
        have hbg : base ≤ gt := by rw [hgt]; exact K2.out.big
        have K4 := hide (show CBr base V0 gd gf gl gM gF gL gj m q _ _ qq 0 wc by rw [hwc]; exact K2.out.below ((Below.refl V3.heap.size V3).alloc (Nat.le_refl _) _).drew)
        have T4 := hide (show Row wc gt 59 [.int .i64 0, .int .i64 1, .int .i64 2, .int .i64 3] by rw [hwc, hgt]; exact (row_at (W := V3) (g := V3.heap.size) (t := 59) (vs := [.int .i64 0, .int .i64 1, .int .i64 2, .int .i64 3]) rfl).below (Below.refl _ _).drew)
        rw [← hgt, ← HMX.out]
        clear hwc hgt hwr hgs DG s0 s1 s2 s3 s4 s5 s6 s7 K2 S2
        have t0 := T4.out.cell (i := 0) (by simp)
        have t1 := T4.out.cell (i := 1) (by simp)
        have t2 := T4.out.cell (i := 2) (by simp)
        have t3 := T4.out.cell (i := 3) (by simp)
        simp only [List.getElem_cons_zero, List.getElem_cons_succ] at t0 t1 t2 t3
        go_wp2_with fail
        have hk4 : 4 * k + 4 ≤ m := by have := HM4.out; omega
        refine (cpass_int K4.out (mm - 1) (4 * k) (4 * k + 3) _ _ _ (by omega) (by omega) (by omega) (by omega) (by omega) (by omega) (by omega) (by omega) (by have := (HB0.out.1 (mm - 1)).1; omega)).mono ?_
        rintro e V6 ⟨⟨v, rfl⟩, hc, hfr⟩
        have K6 := hide hc
        have T6 := hide (hfr.row T4.out hbg)
        have HB6 := hide (Pl.clPass_b (HB0.out.mono (show 4 * k ≤ 4 * (k + 1) by omega)) (show 4 * k < 4 * (k + 1) by omega) (show 4 * k + 3 < 4 * (k + 1) by omega) (by have := HLN.out; omega) (p := mm - 1))
        clear hc hfr K4 T4 t0 t1 t2 t3
        have t0 := T6.out.cell (i := 0) (by simp)
        have t1 := T6.out.cell (i := 1) (by simp)
        have t2 := T6.out.cell (i := 2) (by simp)
        have t3 := T6.out.cell (i := 3) (by simp)
        simp only [List.getElem_cons_zero, List.getElem_cons_succ] at t0 t1 t2 t3
        go_wp2_with fail
        refine (cpass_int K6.out mm (4 * k + 1) (4 * k + 2) _ _ _ (by omega) (by omega) (by omega) (by omega) (by omega) (by omega) (by omega) (by omega) (by have := (HB6.out.1 mm).1; omega)).mono ?_
        rintro e V7 ⟨⟨v, rfl⟩, hc, hfr⟩
        have K7 := hide hc
        clear hc hfr K6 T6 t0 t1 t2 t3
        have HQE := hide (show Pl.clK q ws (k + 1) = Pl.clPass (Pl.clPass qq (mm - 1) (4 * k) (4 * k + 3)) mm (4 * k + 1) (4 * k + 2) by rw [HQN.out]; unfold Pl.clStep; rw [if_pos hx0, ← HMX.out])
        have HSE := hide (show Pl.clSg (ws.take (k + 1)) = sg ++ [(-1)] by rw [HSN.out, if_pos hx0])
        go_wp2_with fail
        go_roundg (go - 1)
        case measure => have := HKG.out; omega
        case rel => exact ⟨k + 1, _, by have := HKG.out; omega, by go_num, by rw [HQE.out, HSE.out]; exact K7.out⟩
       ·have KA := hide (K1.out.below ((Below.refl wr.heap.size wr).alloc (Nat.le_refl _) (.cells #[.int .i64 1] 3)))
        have hgw : gd < wr.heap.size := K1.out.d.lt
        go_upto_region 22 with (at_builtin; refine wpList_append_lies _ (by rfl) _ _ 22 (by rfl) base 3 i0 (.int .i64 0) 1 8 Tryd.underlying22 hi0 hz0 hz1 hz2 rfl (by omega) _ sg.length _ (by rfl) KA.out.own ⟨wr.heap.size, 0, none⟩ 1 1 [.int .i64 1] (by rfl) (by rfl) (one_news _ _) (by simp [Value.oneCell']) (by omega) (by unfold maxLen; omega) (by omega) KA.out.big (wr.heap.size + 1) (by simp) ?_; intro g3 c3 w3 own3 grow3 at3 lt3; obtain ⟨e0, e1, e2, e3⟩ := box3 (KA.out.d.grown grow3 (fun e => by have h1 := (KA.out.own.lt _ e.symm).1; have h2 := (KA.out.lo gd (by simp)).2; omega)); have K2 := hide (KA.out.app own3 grow3); clear own3 grow3 at3)
        obtain ⟨V3, hV3⟩ : ∃ V, V = w3.setCell ⟨gd, 0, none⟩ (.slice (some ⟨g3, 0, none⟩) (sg.length + 1) c3) := ⟨_, rfl⟩
        rw [← hV3] at K2 ⊢
        clear hV3 KA lt3 d0 d1 d2 d3 e0 e1 e2 e3 x1 hgw
        have S2 := hide (S1.out.below K2.out.bel)
        have s0 := S2.out.cell (i := 0) (by simp)
        have s1 := S2.out.cell (i := 1) (by simp)
        have s2 := S2.out.cell (i := 2) (by simp)
        have s3 := S2.out.cell (i := 3) (by simp)
        have s4 := S2.out.cell (i := 4) (by simp)
        have s5 := S2.out.cell (i := 5) (by simp)
        have s6 := S2.out.cell (i := 6) (by simp)
        have s7 := S2.out.cell (i := 7) (by simp)
        simp only [List.getElem_cons_zero, List.getElem_cons_succ] at s0 s1 s2 s3 s4 s5 s6 s7
        have hwr : IntKind.i64.wrap ((IntKind.i64.wrap 2).tdiv 2) = 1 := by rfl
        have hgs : gs < V3.heap.size := S2.out.lt
        have DG := hide (fun W : World => generator_any x W hxb)
        go_cut [14, 15] (fun s14 s15 wx => s14 = .pointer (some ⟨V3.heap.size, 0, none⟩) ∧ s15 = .int .i64 (x.natAbs : Int) ∧ wx = (V3.alloc (.cells #[.int .i64 3, .int .i64 0, .int .i64 1, .int .i64 2] 59)).drew)
        case first =>
         go_region_calls
         all_goals (go_wp2_with fail; go_meet)
         all_goals exact ⟨rfl, by rw [show max x (-x) = (x.natAbs : Int) by omega], rfl⟩
        case rest =>
        obtain ⟨rfl, rfl, hwc⟩ := hcut
        obtain ⟨gt, hgt⟩ : ∃ g, g = V3.heap.size := ⟨_, rfl⟩
        have hbg : base ≤ gt := by rw [hgt]; exact K2.out.big
        have K4 := hide (show CBr base V0 gd gf gl gM gF gL gj m q _ _ qq 0 wc by rw [hwc]; exact K2.out.below ((Below.refl V3.heap.size V3).alloc (Nat.le_refl _) _).drew)
        have T4 := hide (show Row wc gt 59 [.int .i64 3, .int .i64 0, .int .i64 1, .int .i64 2] by rw [hwc, hgt]; exact (row_at (W := V3) (g := V3.heap.size) (t := 59) (vs := [.int .i64 3, .int .i64 0, .int .i64 1, .int .i64 2]) rfl).below (Below.refl _ _).drew)
        rw [← hgt, ← HMX.out]
        clear hwc hgt hwr hgs DG s0 s1 s2 s3 s4 s5 s6 s7 K2 S2
        have t0 := T4.out.cell (i := 0) (by simp)
        have t1 := T4.out.cell (i := 1) (by simp)
        have t2 := T4.out.cell (i := 2) (by simp)
        have t3 := T4.out.cell (i := 3) (by simp)
        simp only [List.getElem_cons_zero, List.getElem_cons_succ] at t0 t1 t2 t3
        go_wp2_with fail
        have hk4 : 4 * k + 4 ≤ m := by have := HM4.out; omega
        refine (cpass_int K4.out (mm - 1) (4 * k + 3) (4 * k + 2) _ _ _ (by omega) (by omega) (by omega) (by omega) (by omega) (by omega) (by omega) (by omega) (by have := (HB0.out.1 (mm - 1)).1; omega)).mono ?_
        rintro e V6 ⟨⟨v, rfl⟩, hc, hfr⟩
        have K6 := hide hc
        have T6 := hide (hfr.row T4.out hbg)
        have HB6 := hide (Pl.clPass_b (HB0.out.mono (show 4 * k ≤ 4 * (k + 1) by omega)) (show 4 * k + 3 < 4 * (k + 1) by omega) (show 4 * k + 2 < 4 * (k + 1) by omega) (by have := HLN.out; omega) (p := mm - 1))
        clear hc hfr K4 T4 t0 t1 t2 t3
        have t0 := T6.out.cell (i := 0) (by simp)
        have t1 := T6.out.cell (i := 1) (by simp)
        have t2 := T6.out.cell (i := 2) (by simp)
        have t3 := T6.out.cell (i := 3) (by simp)
        simp only [List.getElem_cons_zero, List.getElem_cons_succ] at t0 t1 t2 t3
        go_wp2_with fail
        refine (cpass_int K6.out mm (4 * k) (4 * k + 1) _ _ _ (by omega) (by omega) (by omega) (by omega) (by omega) (by omega) (by omega) (by omega) (by have := (HB6.out.1 mm).1; omega)).mono ?_
        rintro e V7 ⟨⟨v, rfl⟩, hc, hfr⟩
        have K7 := hide hc
        clear hc hfr K6 T6 t0 t1 t2 t3
        have HQE := hide (show Pl.clK q ws (k + 1) = Pl.clPass (Pl.clPass qq (mm - 1) (4 * k + 3) (4 * k + 2)) mm (4 * k) (4 * k + 1) by rw [HQN.out]; unfold Pl.clStep; rw [if_neg (by omega), ← HMX.out])
        have HSE := hide (show Pl.clSg (ws.take (k + 1)) = sg ++ [1] by rw [HSN.out, if_neg (by omega)])
        go_wp2_with fail
        go_roundg (go - 1)
        case measure => have := HKG.out; omega
        case rel => exact ⟨k + 1, _, by have := HKG.out; omega, by go_num, by rw [HQE.out, HSE.out]; exact K7.out⟩
      ·have hki : ¬ ((k : Int) < (n : Int)) := by omega
       have HKN := hide (show k = n by omega)
       have HT := hide (show ws.take k = ws from List.take_of_length_le (by have := HL.out; omega))
       obtain ⟨qq, hqq⟩ : ∃ qq, qq = Pl.clK q ws n := ⟨_, rfl⟩
       have HQ := hide hqq
       have HBQ := hide (show Pl.ClB qq (4 * n) by rw [hqq]; exact Pl.clK_b q ws n)
       have K2 := hide (show CBr base V0 gd gf gl gM gF gL gj m q vS (Pl.clSg ws) ⟨(Pl.clEnd qq 0).1, qq.fi, qq.la⟩ (Pl.clEnd qq 0).2 wr from by
        have h := K1.out
        rw [HT.out, HKN.out, ← hqq] at h
        exact h)
       have f0 := K2.out.fb.cell (i := 0) (by simp)
       simp only [List.getElem_cons_zero] at f0
       clear K1 HT hqq
       go_wp2_with fail
       clear f0 hk hki HKG HKN
       go_loopg [16, 108] q (fun g s16 i wx => ∃ p : Nat, p + g = q ∧ i = .int .i64 (p : Int) ∧ CBr base V0 gd gf gl gM gF gL gj m q vS (Pl.clSg ws) ⟨(Pl.clEnd qq p).1, qq.fi, qq.la⟩ (Pl.clEnd qq p).2 wx)
       case atStart => exact ⟨0, by omega, rfl, K2.out⟩
       case round =>
        clear K2
        obtain ⟨p, hpg, rfl, hp⟩ := hrel
        have HPG := hide hpg
        have K1 := hide hp
        have hpq : p ≤ q := by omega
        clear hp hpg
        obtain ⟨gi, rfl⟩ : ∃ gi, gi = gk := ⟨_, rfl⟩
        obtain ⟨lp, hlp⟩ : ∃ lp, lp = (Pl.clEnd qq p).2 := ⟨_, rfl⟩
        obtain ⟨mt, hmt⟩ : ∃ mt, mt = (Pl.clEnd qq p).1 := ⟨_, rfl⟩
        have hlpb : lp ≤ p := by rw [hlp]; exact Pl.clEnd_cnt qq p
        rw [← hlp, ← hmt] at K1
        have HLP := hide hlp
        have HMT := hide hmt
        clear hlp hmt
        by_cases hp : p < q
        ·have hpi : (p : Int) < (q : Int) := by omega
         have p0 : (0 : Int) ≤ (p : Int) := by omega
         have l0 := K1.out.lb.cell (i := 0) (by simp)
         have f0 := K1.out.fb.cell (i := 0) (by simp)
         have c1 := IRow.cell K1.out.lr (i := p) (by rw [K1.out.ll]; exact hp)
         have c2 := IRow.cell K1.out.fr (i := p) (by rw [K1.out.lf]; exact hp)
         simp only [List.getElem_cons_zero] at l0 f0
         have e1 : Pl.pv qq.la p = qq.la.getD p (-1) := by
          have hl := K1.out.ll
          unfold Pl.pv
          rw [List.getD_eq_getElem?_getD, List.getD_eq_getElem?_getD, List.getElem?_eq_getElem (show p < qq.la.length by rw [hl]; exact hp)]
          rfl
         have e2 : Pl.pv qq.fi p = qq.fi.getD p (-1) := by
          have hl := K1.out.lf
          unfold Pl.pv
          rw [List.getD_eq_getElem?_getD, List.getD_eq_getElem?_getD, List.getElem?_eq_getElem (show p < qq.fi.length by rw [hl]; exact hp)]
          rfl
         rw [e1] at c1
         rw [e2] at c2
         have b1 := HBQ.out.1 p
         have b2 := HBQ.out.2 p
         obtain ⟨x, hx⟩ : ∃ x, x = qq.la.getD p (-1) := ⟨_, rfl⟩
         obtain ⟨y, hy⟩ : ∃ y, y = qq.fi.getD p (-1) := ⟨_, rfl⟩
         rw [← hx] at c1 b1 b2
         rw [← hy] at c2 b2
         have HX := hide hx
         have HY := hide hy
         have hm4 := HM4.out
         clear e1 e2 hx hy
         by_cases hx0 : x < 0
         ·have HE := hide (show Pl.clEnd qq (p + 1) = (mt, lp + 1) by
           rw [HMT.out, HLP.out]
           show (if qq.la.getD p (-1) < 0 then _ else _) = _
           rw [if_pos (by rw [← HX.out]; exact hx0)])
          obtain ⟨d0, d1, d2, d3⟩ := box3 K1.out.d
          clear b1 b2 hm4
          go_wp2
          go_roundg (gi - 1)
          case measure => have := HPG.out; omega
          case rel => exact ⟨p + 1, by have := HPG.out; omega, by go_num, by
           rw [HE.out]
           have h := K1.out.setD (lp + 1)
           rw [show (((lp + 1 : Nat)) : Int) = (lp : Int) + 1 by omega] at h
           exact h⟩
         ·obtain ⟨a, rfl⟩ := Int.eq_ofNat_of_zero_le (show 0 ≤ x by omega)
          obtain ⟨b, rfl⟩ := Int.eq_ofNat_of_zero_le (show 0 ≤ y by omega)
          have ham : a < m := by omega
          have hbm : b < m := by omega
          have HE := hide (show Pl.clEnd qq (p + 1) = (Pl.jnn mt a b, lp) by
           rw [HMT.out, HLP.out]
           show (if qq.la.getD p (-1) < 0 then _ else _) = _
           rw [if_neg (by rw [← HX.out]; exact hx0), ← HX.out, ← HY.out]
           rfl)
          have hxn : ¬ ((a : Int) < 0) := hx0
          clear b1 b2 hm4
          have HD := hide (K1.out.below (Below.refl wr.heap.size wr).drew)
          have j0 := K1.out.jb.cell (i := 0) (by simp)
          simp only [List.getElem_cons_zero] at j0
          go_upto_region 31 with fail
          go_still_tail 9, (by kernel_rfl)
          change wpList _ _ _ _ _ wr.drew
          obtain ⟨W6, hW6⟩ : ∃ W6 : World, W6 = wr.drew := ⟨_, rfl⟩
          rw [← hW6] at HD ⊢
          clear hW6 l0 f0 c1 c2 j0
          go_wp2_with fail
          refine (cjoin_any HD.out a b ham hbm (by omega)).mono ?_
          rintro e W7 ⟨⟨v, rfl⟩, hc, _⟩
          have K7 := hide hc
          clear hc
          go_wp2_with fail
          go_roundg (gi - 1)
          case measure => have := HPG.out; omega
          case rel => exact ⟨p + 1, by have := HPG.out; omega, by go_num, by rw [HE.out]; exact K7.out⟩
        ·have hpi : ¬ ((p : Int) < (q : Int)) := by omega
         have HPQ := hide (show p = q by omega)
         have R3 := hide (R2.out.below K1.out.bel)
         obtain ⟨d0, d1, d2, d3⟩ := box3 K1.out.d
         obtain ⟨A4, c4, rfl⟩ := owns_slice K1.out.own
         obtain ⟨r0, r1, r2, r3⟩ := box3 R3.out
         have R4 := hide (row3 R3.out rfl (.slice A4 (Pl.clSg ws).length c4) (.slice (some ⟨gM, 0, none⟩) m m) (.int .i64 (lp : Int)))
         obtain ⟨t0, t1, t2, t3⟩ := box3 R4.out
         have hRV : w.heap.size + 1 < V0.heap.size := R2.out.lt
         go_wp2
         refine bodyPost_ret (v := .tuple #[.agg #[.slice A4 (Pl.clSg ws).length c4, .slice (some ⟨gM, 0, none⟩) m m, .int .i64 (lp : Int)], .int .i64 0]) (by simp [results, Tryd.results12, go_sem, t0, t1, t2]) rfl ?_
         exact close_fin K1.out hRV B2.out (by rw [HM4.out, HL.out]) (by rw [HMT.out, HPQ.out, HQ.out, HL.out]) (by rw [HLP.out, HPQ.out, HQ.out, HL.out]) HV.out _ _ _
 ·rw [Pl.vb_false hv]
  have HV := hide hv
  obtain ⟨r0, r1, r2, r3⟩ := box3 R1.out
  obtain ⟨t0, t1, t2, t3⟩ := box3 (row3 R1.out rfl (.slice none 0 0) (.slice none 0 0) (.int .i64 0))
  clear hv
  go_wp2
  refine bodyPost_ret (v := .tuple #[.agg #[.slice none 0 0, .slice none 0 0, .int .i64 0], .int .i64 1]) (by simp [results, Tryd.results12, go_sem, t0, t1, t2]) rfl ?_
  exact ⟨fun _ => rfl, fun h => absurd h HV.out, ((B1.out.setCell (by show _ ≤ w.heap.size + 1; omega) _).setCell (by show _ ≤ w.heap.size + 1; omega) _).setCell (by show _ ≤ w.heap.size + 1; omega) _⟩
end Go.Proofs.YtcaoblilkgajoaaDoor
end
