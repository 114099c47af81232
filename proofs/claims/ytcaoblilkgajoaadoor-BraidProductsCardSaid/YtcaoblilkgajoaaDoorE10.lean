/-
 The texts Bz, Bza, Pmv, Bze, Bzf in one.
-/
import Derived.Test.YtcaoblilkgajoaaDoorE09
import Derived.RangeFuncFrom
import Derived.Test.YtcaoblilkgajoaaDoorE06
import Derived.Test.YtcaoblilkgajoaaDoorE07
import Derived.Test.YtcaoblilkgajoaaDoorE03
import Derived.Test.YtcaoblilkgajoaaDoorE00
import Derived.Test.YtcaoblilkgajoaaDoorE02
import Derived.Deep.RegionWith
import Derived.Deep.DeepCutAuto
import Derived.Deep.CutBlock
import Derived.Deep.RegionHeld3
import Derived.Deep.DrawnRows
import Derived.Test.YtcaoblilkgajoaaDoorE01
set_option linter.unusedVariables false
set_option linter.unusedSimpArgs false
section
namespace Go.Proofs.YtcaoblilkgajoaaDoor
open Go Go.RowKit Go.Shelf Go.Proofs
attribute [local go_sem] Oper.semAt_some
def KpB (bS b : Nat) (W1 W2 : World) : Prop := W2.heap[bS]? = W1.heap[bS]? ∧ W2.heap[b]? = W1.heap[b]?
theorem KpB.t {bS b : Nat} {A B C : World} (h : KpB bS b A B) (k : KpB bS b B C) : KpB bS b A C := ⟨k.1.trans h.1, k.2.trans h.2⟩
theorem KpB.refl (bS b : Nat) (W : World) : KpB bS b W W := ⟨rfl, rfl⟩
theorem KpB.b {bS b : Nat} {w : World} (h1 : bS < w.heap.size) (h2 : b < w.heap.size) (W : World) (l : Nat) (o o' : Obj) (hl : w.heap.size ≤ l) (_ : W.heap[l]? = some o) (_ : o.isCells = false) (_ : o.isWalk = false) : KpB bS b W (W.putObj l o') :=
 ⟨World.putObj_heap_other (by omega), World.putObj_heap_other (by omega)⟩
theorem KpB.cell {bS b : Nat} {A B : World} (h : KpB bS b A B) (o : Nat) : B.cell? ⟨bS, o, none⟩ = A.cell? ⟨bS, o, none⟩ ∧ B.cell? ⟨b, o, none⟩ = A.cell? ⟨b, o, none⟩ := by
 constructor
 ·unfold World.cell?
  simp only [h.1]
 ·unfold World.cell?
  simp only [h.2]
set_option maxRecDepth 100000 in
set_option maxHeartbeats 2000000 in
theorem back1_inK (F : Fence) (n : Nat) (h8 : F.fn 71) (hro : F.round = none) (hn : 1 ≤ n) (l bS b off len cap : Nat) (zs : List Int) (hreach : len ≤ 1000) (J Jx : List (Nat × Int) → World → Prop)
 (hY : ∀ pre x W, J pre W → pre.length < len → YieldAt F (n - 1) Tryd.prog l #[.int .i64 (x.1 : Int), .int .i64 x.2] W fun e W' =>
   (e = .returned (.bool true) ∧ J (pre ++ [x]) W' ∧ KpB bS b W W') ∨ (e = .returned (.bool false) ∧ Jx (pre ++ [x]) W'))
 (W : World) (hBs : W.cell? ⟨bS, 0, none⟩ = some (.slice (some ⟨b, off, none⟩) len cap)) (hc : ∀ j, j < len → W.cell? ⟨b, off + j, none⟩ = some (.int .i64 (zs[j]?.getD 0))) (h0 : J [] W) :
 CallsIn F n Tryd.prog 71 #[.func (.yield l) #[] #[], .pointer (some ⟨bS, 0, none⟩)] W fun e W' => (∃ v, e = .returned v) ∧
  ((∃ ys, ys = bwU len zs len ∧ J ys W') ∨ (∃ pre, (∃ k, k ≤ len ∧ pre = bwU len zs k) ∧ Jx pre W')) := by
 refine callsIn_of_wp Tryd.func71 rfl h8 ?_ hro
 simp only [Tryd.ntmps71, List.size_toArray, List.length_cons, List.length_nil, Nat.reduceAdd, Nat.reduceSub, Array.replicate_succ, Array.replicate_zero, List.push_toArray, List.append_toArray, List.nil_append, List.cons_append]
 gi_wp2
 gi_loopw [3] (fun i wr => ∃ k : Nat, k ≤ len ∧ i = .int .i64 ((len : Int) - 1 - (k : Int)) ∧ J (bwU len zs k) wr ∧ KpB bS b W wr)
  (fun i _ => (intOf i + 1).toNat)
 case atStart => exact ⟨0, Nat.zero_le _, by simp, h0, KpB.refl _ _ _⟩
 case round =>
  obtain ⟨k, hk, rfl, hJs, hnx⟩ := hrel
  by_cases hlt : k < len
  ·obtain ⟨m, hm⟩ : ∃ m, len = k + 1 + m := ⟨len - (k + 1), by omega⟩
   have ei : (len : Int) - 1 - (k : Int) = (m : Int) := by omega
   have hcx : wr.cell? ⟨b, off + m, none⟩ = some (.int .i64 (zs[m]?.getD 0)) := (hnx.cell (off + m)).2.trans (hc m (by omega))
   have hbx : wr.cell? ⟨bS, 0, none⟩ = some (.slice (some ⟨b, off, none⟩) len cap) := (hnx.cell 0).1.trans hBs
   have ef : bwF len zs k = (m, zs[m]?.getD 0) := by unfold bwF; rw [show len - 1 - k = m by omega]
   obtain ⟨fn, tmps, assign, body, hy, hR⟩ := hY _ (bwF len zs k) wr hJs (by rw [bwU_length]; exact hlt)
   rw [ef] at hy hR
   dsimp only at hy
   have HM := hide hm
   rw [ei]
   clear ei hm
   have m0 : (0 : Int) ≤ (m : Int) := by omega
   have m1 : (m : Int) < (len : Int) := by have := HM.out; omega
   gi_wp2
   refine hR.mono ?_
   rintro e W3 (⟨rfl, hJ3, hk3⟩ | ⟨rfl, hJx3⟩)
   ·gi_wp2
    go_roundw
    case rel => exact ⟨k + 1, by omega, by have := HM.out; congr 1; omega, by rw [bwU_succ, ef]; exact hJ3, hnx.t hk3⟩
    case measure => simp [intOf]; try omega
   ·gi_wp2
    refine bodyPost_ret (results_none rfl _ _ _) rfl ?_
    exact ⟨⟨_, rfl⟩, .inr ⟨_, ⟨k + 1, by omega, by rw [bwU_succ, ef]⟩, hJx3⟩⟩
  ·obtain rfl : k = len := by omega
   have ei : ((k : Nat) : Int) - 1 - (k : Int) = -1 := by omega
   rw [ei]
   gi_wp2
   go_end0
   exact ⟨⟨_, rfl⟩, .inl ⟨_, rfl, hJs⟩⟩
theorem back_stopsK (F : Fence) (n : Nat) (h8 : F.fn 71) (hro : F.round = none) (hn : 1 ≤ n) (bS b : Nat) (A : Option Addr) (cap len : Nat) (zs : List Int) (hreach : len ≤ 1000) (w : World) (hbS : bS < w.heap.size)
 (hc : w.cell? ⟨bS, 0, none⟩ = some (.slice A len cap)) (hI : len = 0 ∨ ∃ off, A = some ⟨b, off, none⟩ ∧ b < w.heap.size ∧ ∀ j, j < len → w.cell? ⟨b, off + j, none⟩ = some (.int .i64 (zs[j]?.getD 0))) :
 SeqStopsK F n Tryd.prog 71 #[.pointer (some ⟨bS, 0, none⟩)] (fun x : Nat × Int => #[Value.int .i64 (x.1 : Int), Value.int .i64 x.2]) (KpB bS b) (fun ys => ys = bwU len zs len)
  (fun pre => ∃ k, k ≤ len ∧ pre = bwU len zs k) len w := fun l J Jx W hW _ _ hY h0 => by
 have hc' := (hW.cell (p := ⟨bS, 0, none⟩) hbS).trans hc
 rcases hI with h | ⟨off, rfl, hb, hcs⟩
 ·subst h
  exact (back1_nil_in F n h8 hro l bS cap A J W hc' h0).mono fun e W' ⟨he, hj⟩ => ⟨he, .inl ⟨_, rfl, hj⟩⟩
 ·exact back1_inK F n h8 hro hn l bS b off len cap zs hreach J Jx hY W hc' (fun j hj => (hW.cell (p := ⟨b, off + j, none⟩) hb).trans (hcs j hj)) h0
theorem bwU_neg {s : Int} {n : Nat} {ws : List Int} (hn : ws.length = n) (hv : Pl.BV s ws) :
 (bwU n ws n).map (fun x => Value.int .i64 (wrap64 (-x.2))) = (ws.reverse.map (fun x => -x)).map (.int .i64) := by
 subst hn
 apply List.ext_getElem?
 intro k
 by_cases hk : k < ws.length
 ·have h1 : ws.length - 1 - k < ws.length := by omega
  have hx := hv.2.2.2 _ (List.getElem_mem h1)
  have hs := hv.2.1
  have e : wrap64 (-ws[ws.length - 1 - k]) = -ws[ws.length - 1 - k] := by unfold wrap64; omega
  simp [bwU, bwF, hk, h1, e]
 ·simp [bwU, hk]
def InvPost (s : Int) (ws : List Int) (w : World) (e : Ending) (w' : World) : Prop :=
 (¬ Pl.BV s ws → e = .returned (.agg #[.int .i64 0, .slice none 0 0])) ∧ (Pl.BV s ws → ∃ (A : Option Addr) (c : Nat), e = .returned (.agg #[.int .i64 s, .slice A ws.length c]) ∧ RowT w' 3 A ws.length ((ws.reverse.map (fun x => -x)).map (.int .i64))) ∧ Below w.heap.size w w'
set_option maxRecDepth 100000 in
set_option maxHeartbeats 4000000 in
theorem inverse_any (s : Int) (ws : List Int) (A : Option Addr) (n c : Nat) (w : World) (hw : IntsAt w A n ws) (hn : n ≤ maxLen) :
 Calls Tryd.prog 24 #[.agg #[.int .i64 s, .slice A n c]] w (InvPost s ws w) := by
 have HL := hide hw.len
 have HW := hide hw
 clear hw
 have X0 := hide ((row_at (W := w) (g := w.heap.size) (t := 24) (vs := [.int .i64 s, .slice A n c]) rfl).below ((Below.refl _ _).alloc (Nat.le_refl _) (.cells #[.int .i64 0, .slice none 0 0] 24)))
 have R0 := hide (row_at (W := w.alloc (.cells #[.int .i64 s, .slice A n c] 24)) (g := w.heap.size + 1) (t := 24) (vs := [.int .i64 0, .slice none 0 0]) (by simp))
 have B0 := hide (show Below w.heap.size w ((w.alloc (.cells #[.int .i64 s, .slice A n c] 24)).alloc (.cells #[.int .i64 0, .slice none 0 0] 24)) from ((Below.refl _ _).alloc (Nat.le_refl _) _).alloc (by simp) _)
 obtain ⟨d0, d1, d2⟩ := box2b X0.out
 refine (callsIn_wide (n := 4)).1 ?_
 refine callsIn_of_wp_marks Tryd.func24 rfl trivial ?_ rfl
 simp only [Tryd.ntmps24, List.size_toArray, List.length_cons, List.length_nil, Nat.reduceAdd, Nat.reduceSub, Array.replicate_succ, Array.replicate_zero, List.push_toArray, List.append_toArray, List.nil_append, List.cons_append]
 gi_wp2_with fail
 refine ⟨trivial, ?_⟩
 refine (callsIn_wide.2 (bvalid_any s ws A n c _ (HW.out.keep B0.out) hn)).mono ?_
 rintro e w1 ⟨rfl, hb1⟩
 have B1 := hide (B0.out.trans (hb1.mono B0.out.size))
 have X1 := hide (X0.out.below hb1)
 have R1 := hide (R0.out.below hb1)
 clear X0 R0 B0 hb1 d0 d1 d2
 obtain ⟨d0, d1, d2⟩ := box2b X1.out
 have hwb : w.heap.size + 1 < w1.heap.size := R1.out.lt
 by_cases hv : Pl.BV s ws
 ·rw [Pl.vb_true hv]
  have HV := hide hv
  have h200 : n ≤ 200 := by have := hv.2.2.1; have := HL.out; omega
  clear hv
  obtain ⟨i0, hi0, hz0, hz1, hz2⟩ := info_parts intInfo
  have hmk0 : ∀ W : World, (Instr.makeSlice 22 (.int .i64 0) (.int .i64 (n : Int))).run Tryd.prog W = .ok (.slice (some ⟨W.heap.size, 0, none⟩) 0 n) (W.alloc (.cells (Array.replicate n (Value.int .i64 0)) 3)) := fun W => by
   have := run_make (P := Tryd.prog) W 22 3 i0 (.int .i64 0) Tryd.underlying22 hi0 hz0 .i64 .i64 0 n (by omega) (by omega) (by rw [hz2]; omega) (by omega)
   rw [hz1, Nat.mul_one, Int.toNat_natCast, show madeCells (Value.cells (.int .i64 0)) n = (List.replicate n (.int .i64 0)).toArray from made_rep _ _] at this
   exact this
  have hwb0 : w.heap.size < w1.heap.size := by omega
  have dd := (X1.out.alloc (.cells (Array.replicate n (Value.int .i64 0)) 3)).alloc (.cells #[.slice (some ⟨w1.heap.size, 0, none⟩) 0 n] 22)
  obtain ⟨dd0, dd1, dd2⟩ := box2b dd
  gi_wp2_with fail
  refine ⟨trivial, ?_⟩
  refine (backward_in Fence.wide 3 trivial rfl A n c _).mono ?_
  rintro e w2 ⟨rfl, rfl⟩
  obtain ⟨wb, hwbE⟩ : ∃ wb, ((w1.alloc (.cells (Array.replicate n (Value.int .i64 0)) 3)).alloc (.cells #[.slice (some ⟨w1.heap.size, 0, none⟩) 0 n] 22)).alloc (.cells #[.slice A n c] 22) = wb := ⟨_, rfl⟩
  have hsz : wb.heap.size = w1.heap.size + 3 := by rw [← hwbE]; simp
  have hBb : Below w1.heap.size w1 wb := by rw [← hwbE]; exact (((Below.refl _ _).alloc (Nat.le_refl _) _).alloc (by simp) _).alloc (by simp; omega) _
  have hbx : Boxed wb (w1.heap.size + 1) 22 (.slice (some ⟨w1.heap.size, 0, none⟩) 0 n) := by
   rw [← hwbE]
   have := (Boxed.new (w1.alloc (.cells (Array.replicate n (Value.int .i64 0)) 3)) 22 (.slice (some ⟨w1.heap.size, 0, none⟩) 0 n)).alloc (.cells #[.slice A n c] 22)
   rwa [World.size_alloc] at this
  have hbs : Boxed wb (w1.heap.size + 1 + 1) 22 (.slice A n c) := by
   rw [← hwbE]
   have := Boxed.new ((w1.alloc (.cells (Array.replicate n (Value.int .i64 0)) 3)).alloc (.cells #[.slice (some ⟨w1.heap.size, 0, none⟩) 0 n] 22)) 22 (.slice A n c)
   rwa [World.size_alloc, World.size_alloc] at this
  have hown0 : wb.ownsRow w1.heap.size 3 1 (.slice (some ⟨w1.heap.size, 0, none⟩) 0 n) 0 [] := by
   rw [← hwbE]
   exact ⟨rfl, .inr ⟨w1.heap.size, n, .replicate n (.int .i64 0), rfl, Nat.le_refl _, (Below.heap_alloc _ _ _ (by simp; omega)).trans ((Below.heap_alloc _ _ _ (by simp)).trans (World.alloc_heap_new _ _)), Nat.zero_le _, by omega, by simp, by simp⟩⟩
  have hII : IntsAt wb A n ws := (HW.out.keep (B1.out)).keep (hBb.mono (Nat.le_refl _))
  gi_wp2_with fail
  clear hwbE
  obtain ⟨b, hblt, hI⟩ : ∃ b, b < w1.heap.size ∧ (n = 0 ∨ ∃ off, A = some ⟨b, off, none⟩ ∧ b < wb.heap.size ∧ ∀ j, j < n → wb.cell? ⟨b, off + j, none⟩ = some (.int .i64 (ws[j]?.getD 0))) := by
   by_cases h0 : n = 0
   ·exact ⟨0, by omega, .inl h0⟩
   ·have hI1 : IntsAt w1 A n ws := HW.out.keep B1.out
    obtain ⟨b, o, rfl, hcx⟩ := hI1.at_ (k := 0) (by omega)
    have hlt : b < w1.heap.size := lt_of_cell hcx
    refine ⟨b, hlt, .inr ⟨o, rfl, by omega, fun j hj => ?_⟩⟩
    obtain ⟨b', o', e', hcj⟩ := hII.at_ hj
    cases e'
    rw [hcj, List.getD_eq_getElem?_getD]
  refine wpIn_rangeFunc_ownF rfl (by omega) (gf := 71) (lb := #[.pointer (some ⟨w1.heap.size + 1 + 1, 0, none⟩)]) rfl trivial (enters_of Tryd.func71 (by kernel_rfl) rfl)
   (back_stopsK Fence.wide 3 trivial rfl (by omega) (w1.heap.size + 1 + 1) b A c n ws (by omega) wb (by omega) hbs.cell hI) KpB.t (KpB.b (by omega) (by omega)) (Below.refl _ _) (fun _ => rfl)
   (fun (pre : List (Nat × Int)) W => (∃ v, Boxed W (w1.heap.size + 1) 22 v ∧ W.ownsRow w1.heap.size 3 1 v pre.length (pre.map (fun x => Value.int .i64 (wrap64 (-x.2)))) ∧ True) ∧ (Boxed W (w1.heap.size + 1 + 1) 22 (.slice A n c) ∧ Below w1.heap.size w1 W))
   (fun _ _ _ => False)
   (OwnFrom.and (Own.from (holdsRow_own w1.heap.size (w1.heap.size + 1) 22 3 1 (fun (pre : List (Nat × Int)) => pre.length) (fun (pre : List (Nat × Int)) => pre.map (fun x => Value.int .i64 (wrap64 (-x.2)))) (fun _ _ => True)) _) (OwnFrom.and (Own.from (boxed_own (w1.heap.size + 1 + 1) 22 (fun (_ : List (Nat × Int)) => .slice A n c)) _) (ownFrom_below (Nat.le_refl _) (by omega))))
   (fun _ _ _ _ _ hs _ _ => hs)
   ⟨⟨_, hbx, hown0, trivial⟩, hbs, hBb⟩
   (fun (x : Nat × Int) => { tmps := #[.agg #[.int .i64 s, .slice A n c], .pointer (some ⟨w.heap.size, 0, none⟩), .pointer (some ⟨w.heap.size + 1, 0, none⟩), .pointer (some ⟨w1.heap.size + 1, 0, none⟩), undef, .int .i64 x.2, .agg #[.int .i64 s, .slice A n c], .bool true, .bool false, undef, .pointer (some ⟨w.heap.size, 1, none⟩), .slice A n c, .int .i64 n, .slice (some ⟨w1.heap.size, 0, none⟩) 0 n, .pointer (some ⟨w.heap.size, 1, none⟩), .slice A n c, .func (.func 71) #[] #[.pointer (some ⟨w1.heap.size + 1 + 1, 0, none⟩)], .int .i64 x.1, .int .i64 x.2, undef, undef, undef, undef, undef, undef, undef, undef, undef], defers := [] }) ?assign ?body ?done ?stop
  case assign =>
   intro l x W K hK
   gi_wp2
   exact hK
  case body =>
   rintro l pre x W ⟨⟨v, hv, hrow, _⟩, hbs', hB⟩ hlt
   have hc := hv.cell
   have hlen : pre.length < n := hlt
   gi_wp2_with (gi_at_builtin; refine wpListIn_append_own _ rfl _ _ 22 rfl w1.heap.size 3 i0 (.int .i64 0) 1 8 Tryd.underlying22 hi0 hz0 hz1 hz2 rfl (by decide) _ _ _ rfl (hrow.alloc _) ⟨W.heap.size, 0, none⟩ 1 1 [.int .i64 (wrap64 (-x.2))] rfl rfl (cell_one_new _ _ _) (by simp [Value.oneCell']) (by omega) (by omega) (by have := hB.size; simp; omega) ?_; intro v' w1' hown' hgrow _; obtain ⟨g', cap', rfl⟩ := ownsRow_succ hown'; obtain ⟨hv1, hv2, hr2, hk2, hb2⟩ := hv.appended (by decide) hrow hB.size (by omega) hown' hgrow; have hc1 := hv1.cell; have hf1 := hv1.frozen)
   have hbx2 : Boxed (w1'.setCell ⟨w1.heap.size + 1, 0, none⟩ (.slice (some ⟨g', 0, none⟩) (pre.length + 1) cap')) (w1.heap.size + 1 + 1) 22 (.slice A n c) := ((hbs'.alloc _).kept hgrow (hbs'.not_row (by decide) hrow)).other (by omega) _
   exact ⟨hk2, ⟨hbx2.trans hbs'.symm, hb2.block b (by have := hB.size; omega)⟩, ⟨_, hv2, by simpa using hr2, trivial⟩, hbx2, hB.trans hb2⟩
  case done =>
   rintro D ys W hD rfl ⟨⟨v, hv, hrow, _⟩, hbs', hB⟩ hK
   obtain ⟨A', c', rfl⟩ := owns_slice hrow
   have hc := hv.cell
   have HR := hide hrow
   clear hrow
   obtain ⟨g0, g1, g2⟩ := box2b (X1.out.below hB)
   obtain ⟨q0, q1, q2⟩ := box2b (R1.out.below hB)
   gi_wp2
   have hDr : ∀ (g : Nat) (h : g < D) (o' : Obj) (W : World), (W.putObj D o').heap[g]? = W.heap[g]? := fun g h o' W => World.putObj_heap_other (by omega)
   have hD2 : w.heap.size + 1 < D := by omega
   have hK2 : ((W.setCell ⟨w.heap.size + 1, 0, none⟩ (.int .i64 s)).setCell ⟨w.heap.size + 1, 1, none⟩ (.slice A' (bwU n ws n).length c')).heap[D]? = some (.deferred (some [])) := by
    refine Eq.trans (Below.heap_setCell _ _ _ _ (by show D ≠ w.heap.size + 1; omega)) (Eq.trans (Below.heap_setCell _ _ _ _ (by show D ≠ w.heap.size + 1; omega)) hK)
   refine ⟨by simp, .inl ⟨_, _, rfl, run_takeDeferred hK2, ?_⟩⟩
   refine ⟨_, results_cell_row rfl _ _ (w.heap.size + 1) 24 _ _ _ rfl ((hDr _ hD2 _ _).trans (((R1.out.below hB).set 0 (.int .i64 s)).set 1 (.slice A' (bwU n ws n).length c'))) Tryd.underlying24 rfl (by kernel_rfl), fun h => absurd HV.out h, fun _ => ⟨A', c', ?_, ?_⟩, ?_⟩
   ·rw [bwU_length, HL.out]; rfl
   ·have h2 := HR.out
    rw [bwU_length] at h2
    have h3 : ((W.setCell ⟨w.heap.size + 1, 0, none⟩ (.int .i64 s)).setCell ⟨w.heap.size + 1, 1, none⟩ (.slice A' (bwU n ws n).length c')).ownsRow w1.heap.size 3 1 (.slice A' n c') n ((bwU n ws n).map (fun x => Value.int .i64 (wrap64 (-x.2)))) :=
     ownsRow_setCell_below (ownsRow_setCell_below h2 (by show w.heap.size + 1 < w1.heap.size; omega) _) (by show w.heap.size + 1 < w1.heap.size; omega) _
    rw [bwU_neg HL.out HV.out] at h3
    rw [HL.out]
    exact own_rowT (ownsRow_putObj h3 _ hK2 rfl)
   ·have hB3 := B1.out.trans (hB.mono B1.out.size)
    have hB4 : Below w.heap.size w ((W.setCell ⟨w.heap.size + 1, 0, none⟩ (.int .i64 s)).setCell ⟨w.heap.size + 1, 1, none⟩ (.slice A' (bwU n ws n).length c')) :=
     (hB3.setCell (by show w.heap.size ≤ w.heap.size + 1; omega) _).setCell (by show w.heap.size ≤ w.heap.size + 1; omega) _
    refine hB4.trans ?_
    exact belowK_b (w := w) (Nat.le_refl _) _ D _ _ (by omega) hK2 rfl rfl
  case stop =>
   rintro D c pre W _ _ h _
   exact h.elim
 ·rw [Pl.vb_false hv]
  have HV := hide hv
  clear hv
  obtain ⟨r0, r1, r2⟩ := box2b R1.out
  obtain ⟨t0, t1, t2⟩ := box2b ((R1.out.set 0 (.int .i64 0)).set 1 (.slice none 0 0))
  gi_wp2
  refine ⟨_, results_cell_row rfl _ _ (w.heap.size + 1) 24 _ _ _ rfl (R1.out.set 0 (.int .i64 0) |>.set 1 (.slice none 0 0)) Tryd.underlying24 rfl (by kernel_rfl), fun _ => rfl, fun h => absurd h HV.out, (B1.out.setCell (by show _ ≤ w.heap.size + 1; omega) _).setCell (by show _ ≤ w.heap.size + 1; omega) _⟩
end Go.Proofs.YtcaoblilkgajoaaDoor
end
section
namespace Go.Proofs.YtcaoblilkgajoaaDoor
open Go Go.RowKit
attribute [local go_sem ↓] Go.wp_at_zero Go.wp_at_succ
section
variable {s : Int} {ws : List Int} {t : Int} {pl : List Nat} {zi zr : List Int} {ex : Int}
end
theorem Row2.new {W : World} {g : Nat} {t : TypeId} {a b : Value} (h : W.heap.size = g) : Row (W.alloc (.cells #[a, b] t)) g t [a, b] := row_at h.symm
theorem Row2.s0 {W : World} {g : Nat} {t : TypeId} {a b v : Value} (h : Row W g t [a, b]) : Row (W.setCell ⟨g, 0, none⟩ v) g t [v, b] := h.set 0 v
theorem Row2.s1 {W : World} {g : Nat} {t : TypeId} {a b v : Value} (h : Row W g t [a, b]) : Row (W.setCell ⟨g, 1, none⟩ v) g t [a, v] := h.set 1 v
theorem RowT.alloc {w : World} {t : TypeId} {A : Option Addr} {n : Nat} {xs : List Value} (h : RowT w t A n xs) (o : Obj) : RowT (w.alloc o) t A n xs := h.keep ((Below.refl _ _).alloc (Nat.le_refl _) _)
structure B5 (w2 : World) (gx g4 g5 : Nat) (s : Int) (A : Option Addr) (n c : Nat) (t : Int) (Ap : Option Addr) (pl : List Nat) (Ai : Option Addr) (ci : Nat) (zi : List Int) (Ar : Option Addr) (cr : Nat) (zr : List Int) (W : World) : Prop where
 x : Row W gx 24 [.int .i64 s, .slice A n c]
 r4 : Row W g4 24 [.int .i64 t, .slice Ai zi.length ci]
 r5 : Row W g5 24 [.int .i64 t, .slice Ar zr.length cr]
 p : RowT W 3 Ap pl.length ((nats pl).map (.int .i64))
 i : RowT W 3 Ai zi.length (zi.map (.int .i64))
 r : RowT W 3 Ar zr.length (zr.map (.int .i64))
 bel : Below w2.heap.size w2 W
end Go.Proofs.YtcaoblilkgajoaaDoor
end
section
namespace Go.Proofs.YtcaoblilkgajoaaDoor.Pl
variable {N : Nat} {f : Nat → Nat}
theorem gb_rep (n x : Nat) : gb (List.replicate n false) x = false := by
 unfold gb
 rw [List.getD_eq_getElem?_getD, List.getElem?_replicate]
 split <;> rfl
theorem mark_new {l : List Nat} {n k : Nat} (hl : l.length = n) (h1 : ∀ i, i < n → l.getD i 0 < n) (h2 : ∀ i j, i < n → j < n → l.getD i 0 = l.getD j 0 → i = j) (hk : k < n) : gb (mark (List.replicate n false) (l.take k)) (l.getD k 0) = false := by
 rw [← Bool.not_eq_true]
 intro e
 have at_ : ∀ x, x ∈ l.take k → ∃ i, i < k ∧ x = l.getD i 0 := fun x hx => by
  obtain ⟨i, hi, rfl⟩ := List.getElem_of_mem hx
  have hik : i < k := by rw [List.length_take] at hi; omega
  refine ⟨i, hik, ?_⟩
  rw [List.getElem_take, List.getD_eq_getElem?_getD, List.getElem?_eq_getElem (by omega)]
  rfl
 rcases (gb_mark (fun x hx => by
  obtain ⟨i, hi, rfl⟩ := at_ x hx
  rw [List.length_replicate]
  exact h1 i (by omega)) _).1 e with h | h
 ·rw [gb_rep] at h; cases h
 ·obtain ⟨i, hi, e⟩ := at_ _ h
  have := h2 k i hk (by omega) e
  omega
theorem Fcs.unseen {W : Nat → Prop} (hb : Bij N (fun i => i < N) f) {k : Nat} {fs : List (List Nat)} {bs : List Bool} (h : Fcs f W N k fs bs) {x y : Nat} (hx : x < N) (hn : gb bs x = false) (e : Orb f x y) : y < N ∧ gb bs y = false := by
 have hy : y < N := hb.orb_mem hx e
 refine ⟨hy, ?_⟩
 rw [← Bool.not_eq_true]
 intro c
 obtain ⟨l, h1, h2⟩ := (h.seen y hy).1 c
 obtain ⟨g, q, h3, h4, h5, rfl⟩ := h.is l h1
 have := (h.seen x hx).2 ⟨_, h1, (mem_cyc h5).2 (((mem_cyc h5).1 h2).trans (hb.symm hx e))⟩
 rw [hn] at this
 cases this
theorem Fcs.step_new {W : Nat → Prop} (hb : Bij N (fun i => i < N) f) {k p j : Nat} {fs : List (List Nat)} {bs : List Bool} (h : Fcs f W N k fs bs) (hk : k < N) (hn : gb bs k = false) (hp : Per f k p) (hj : j < p) : gb (mark bs (cyc f k j)) (it f j k) = false := by
 rw [← Bool.not_eq_true]
 intro e
 have at_ : ∀ x, x ∈ cyc f k j → ∃ i, i < j ∧ x = it f i k := fun x hx => by
  unfold cyc at hx
  obtain ⟨i, hi, rfl⟩ := List.mem_map.1 hx
  exact ⟨i, List.mem_range.1 hi, rfl⟩
 rcases (gb_mark (fun x hx => by
  obtain ⟨i, hi, rfl⟩ := at_ x hx
  rw [h.len]
  exact hb.it i k hk) _).1 e with c | c
 ·have := (h.unseen hb hk hn ⟨j, rfl⟩).2
  rw [c] at this
  cases this
 ·obtain ⟨i, hi, e⟩ := at_ _ c
  have h1 := it_add f i (j - i) k
  rw [show i + (j - i) = j by omega, e] at h1
  have := hb.it_inj i k (it f (j - i) k) hk (hb.it _ k hk) h1
  exact hp.2.2 (j - i) (by omega) (by omega) this.symm
theorem Fcs.step_end {W : Nat → Prop} (hb : Bij N (fun i => i < N) f) {k p : Nat} {fs : List (List Nat)} {bs : List Bool} (h : Fcs f W N k fs bs) (hk : k < N) (hp : Per f k p) : gb (mark bs (cyc f k p)) (it f p k) = true := by
 have at_ : ∀ x, x ∈ cyc f k p → x < bs.length := fun x hx => by
  unfold cyc at hx
  obtain ⟨i, hi, rfl⟩ := List.mem_map.1 hx
  rw [h.len]
  exact hb.it i k hk
 refine (gb_mark at_ _).2 (.inr ?_)
 rw [hp.2.1]
 exact (mem_cyc hp).2 (Orb.refl f k)
theorem Fcs.add_tl {W : Nat → Prop} (hb : Bij N (fun i => i < N) f) {k p : Nat} {fs : List (List Nat)} {bs : List Bool} (h : Fcs f W N k fs bs) (hk : k < N) (hn : gb bs k = false) (hp : Per f k p) (ht : tlF fs = cntB bs) : tlF (fs ++ [cyc f k p]) = cntB (mark bs (cyc f k p)) :=
 Fcs.tlF_add ht h.len hp (fun x hx => h.unseen hb hk hn ((mem_cyc hp).1 hx))
end Go.Proofs.YtcaoblilkgajoaaDoor.Pl
end
section
namespace Go.Proofs.YtcaoblilkgajoaaDoor
open Go Go.RowKit
attribute [local go_sem ↓] Go.wp_at_zero Go.wp_at_succ
set_option maxRecDepth 100000 in
set_option maxHeartbeats 2000000 in
theorem pvalid_yes (l : List Nat) (A : Option Addr) (n c : Nat) (w : World) (hw : IntsAt w A n (nats l)) (hn : n ≤ 1000) (h1 : ∀ i, i < n → l.getD i 0 < n) (h2 : ∀ i j, i < n → j < n → l.getD i 0 = l.getD j 0 → i = j) :
 Calls Tryd.prog 59 #[.slice A n c] w fun e w' => e = .returned (.bool true) ∧ Below w.heap.size w w' := by
 have hl : l.length = n := by have := hw.len; rwa [nats_len] at this
 have HW := hide hw
 have HL := hide hl
 have H1 := hide h1
 have HN := hide (show ∀ k, k < n → Pl.gb (Pl.mark (List.replicate n false) (l.take k)) (l.getD k 0) = false from fun k hk => Pl.mark_new hl h1 h2 hk)
 have hmk := fun W : World => run_bools n (by omega) W
 have H0 := hide (show BRow (w.alloc (.cells (Array.replicate n (Value.bool false)) 4)) w.heap.size (Pl.mark (List.replicate n false) (l.take 0)) from BRow.made w n)
 have B0 := hide (show Below w.heap.size w (w.alloc (.cells (Array.replicate n (Value.bool false)) 4)) from (Below.refl _ _).alloc (Nat.le_refl _) _)
 clear hw hl h1 h2
 go_enter Tryd.func59, Tryd.ntmps59
 go_wp2
 clear hmk
 go_loopg [5, 11] n (fun g s5 i wx => ∃ k : Nat, k + g = n ∧ i = .int .i64 (k : Int) ∧ BRow wx w.heap.size (Pl.mark (List.replicate n false) (l.take k)) ∧ Below w.heap.size w wx)
 case atStart => exact ⟨0, by omega, rfl, H0.out, B0.out⟩
 case round =>
  clear H0 B0
  obtain ⟨k, hkg, rfl, hb, hbl⟩ := hrel
  have HKG := hide hkg
  have HB := hide hb
  have HBL := hide hbl
  have hkn : k ≤ n := by omega
  clear hkg hb hbl
  by_cases hk : k < n
  ·have hki : (k : Int) < (n : Int) := by omega
   have k0 : (0 : Int) ≤ (k : Int) := by omega
   obtain ⟨b, o, rfl, hc⟩ := nats_at (HW.out.keep HBL.out) (k := k) hk
   have hy := H1.out k hk
   have hnew := HN.out k hk
   have HT := hide (show l.take (k + 1) = l.take k ++ [l.getD k 0] by
    have e : l[k]? = some (l.getD k 0) := by rw [List.getD_eq_getElem?_getD, List.getElem?_eq_getElem (by rw [HL.out]; exact hk)]; rfl
    exact Pl.take_one e)
   obtain ⟨y, hyy⟩ : ∃ y, y = l.getD k 0 := ⟨_, rfl⟩
   rw [← hyy] at hc hy hnew HT
   have c1 := HB.out.cell (i := y) (by rw [Pl.mark_len, List.length_replicate]; exact hy)
   unfold Pl.gb at hnew
   rw [hnew] at c1
   have f1 := Row.free HB.out y
   have y0 : (0 : Int) ≤ (y : Int) := by omega
   have y1 : (y : Int) < (n : Int) := by omega
   clear hyy hnew
   go_wp2
   go_roundg (gk - 1)
   case measure => have := HKG.out; omega
   case rel => exact ⟨k + 1, by have := HKG.out; omega, by go_num, by rw [HT.out, Pl.mark_append]; exact HB.out.set y true, HBL.out.setCell (Nat.le_refl _) _⟩
  ·have hki : ¬ ((k : Int) < (n : Int)) := by omega
   go_wp2
   go_ret
   exact ⟨rfl, HBL.out⟩
def LnV (vs : List Value) (fs : List (List Nat)) : Prop := ∀ (i : Nat) (l : List Nat), fs[i]? = some l → ∃ (A : Option Addr) (c : Nat), vs[i]? = some (Value.slice A l.length c)
theorem LnV.nil : LnV [] [] := fun i l h => by simp at h
theorem LnV.add {vs : List Value} {fs : List (List Nat)} (h : LnV vs fs) (hl : vs.length = fs.length) {l : List Nat} {A : Option Addr} {c m : Nat} (hm : m = l.length) : LnV (vs ++ [.slice A m c]) (fs ++ [l]) := by
 subst hm
 intro i k e
 rw [List.getElem?_append] at e
 by_cases hi : i < fs.length
 ·rw [if_pos hi] at e
  obtain ⟨B, d, h1⟩ := h i k e
  exact ⟨B, d, by rw [List.getElem?_append, if_pos (by rw [hl]; exact hi)]; exact h1⟩
 ·rw [if_neg hi] at e
  have hz : i - fs.length = 0 := by
   have := (List.getElem?_eq_some_iff.1 e).1
   simp only [List.length_singleton] at this
   omega
  rw [hz] at e
  injection e with e
  subst e
  exact ⟨A, c, by rw [List.getElem?_append, if_neg (by rw [hl]; exact hi), hl, hz]; rfl⟩
structure PcS (w : World) (w1 : World) (f : Nat → Nat) (N k : Nat) (fs : List (List Nat)) (bs : List Bool) (vs : List Value) (vA : Value) (W : World) : Prop where
 fc : Pl.Fcs f (fun _ => True) N k fs bs
 tl : Pl.tlF fs = Pl.cntB bs
 few : fs.length ≤ k
 seen : BRow W w1.heap.size bs
 own : W.ownsRow (w1.heap.size + 1) 22 1 vA fs.length vs
 ln : LnV vs fs
 bel : Below w.heap.size w W
 up : w.heap.size ≤ w1.heap.size
def PcyPost (f : Nat → Nat) (N : Nat) (w : World) (e : Ending) (w' : World) : Prop :=
 ∃ (A : Option Addr) (c : Nat) (fs : List (List Nat)) (bs : List Bool) (vs : List Value), e = .returned (.slice A fs.length c) ∧ Pl.Fcs f (fun _ => True) N N fs bs ∧ Pl.tlF fs = Pl.cntB bs ∧ fs.length ≤ N ∧ RowT w' 22 A fs.length vs ∧ LnV vs fs ∧ Below w.heap.size w w'
set_option maxRecDepth 100000 in
set_option maxHeartbeats 4000000 in
theorem pcycles_yes (f : Nat → Nat) (l : List Nat) (A : Option Addr) (n c : Nat) (w : World) (hw : IntsAt w A n (nats l)) (hn : n ≤ 1000) (hf : ∀ i, i < n → l.getD i 0 = f i) (hb : Pl.Bij n (fun i => i < n) f) :
 Calls Tryd.prog 32 #[.slice A n c] w (PcyPost f n w) := by
 have HW := hide hw
 have HF := hide hf
 have HBJ := hide hb
 have HM := hide (show ∀ i, i < n → l.getD i 0 < n from fun i hi => by rw [hf i hi]; exact hb.maps i hi)
 have HI := hide (show ∀ i j, i < n → j < n → l.getD i 0 = l.getD j 0 → i = j from fun i j hi hj e => by rw [hf i hi, hf j hj] at e; exact hb.inj i j hi hj e)
 clear hw hf hb
 go_enter Tryd.func32, Tryd.ntmps32
 go_wp2_with fail
 refine (pvalid_yes l A n c _ HW.out hn HM.out HI.out).mono ?_
 rintro e w1 ⟨rfl, hb1⟩
 have B1 := hide hb1
 clear hb1
 have hmk := fun W : World => run_bools n (by omega) W
 have H0 := hide (show PcS w w1 f n 0 [] (List.replicate n false) [] (.slice none 0 0) (w1.alloc (.cells (Array.replicate n (Value.bool false)) 4)) from
  ⟨Pl.Fcs.start f _ n, by
    show 0 = _
    unfold Pl.cntB
    rw [List.count_replicate]
    rfl, Nat.le_refl _, BRow.made w1 n, World.ownsRow_nil _ _ _ _, LnV.nil, B1.out.alloc B1.out.size _, B1.out.size⟩)
 go_wp2
 clear hmk
 go_loopg [3, 5, 6, 7, 16] n (fun g v s5 s6 s7 i wx => ∃ (k : Nat) (fs : List (List Nat)) (bs : List Bool) (vs : List Value), k + g = n ∧ i = .int .i64 (k : Int) ∧ PcS w w1 f n k fs bs vs v wx)
 case atStart => exact ⟨0, _, _, _, by omega, rfl, H0.out⟩
 case round =>
  clear H0
  obtain ⟨k, fs, bs, vs, hkg, rfl, hk⟩ := hrel
  have HKG := hide hkg
  have hkN : k ≤ n := by omega
  have HK := hide hk
  clear hkg hk
  obtain ⟨go, rfl⟩ : ∃ go, go = gk := ⟨_, rfl⟩
  obtain ⟨A3, c3, rfl⟩ := owns_slice HK.out.own
  by_cases hlt : k < n
  ·have hbl : k < bs.length := by rw [HK.out.fc.len]; exact hlt
   have hc := HK.out.seen.cell hbl
   have ik : (0 : Int) ≤ (k : Int) := by omega
   have jk : (k : Int) < (n : Int) := by omega
   cases hg : Pl.gb bs k with
   | true =>
     have HGB := hide hg
     have hc' : wr.cell? ⟨w1.heap.size, k, none⟩ = some (.bool true) := by rw [hc]; unfold Pl.gb at hg; rw [hg]
     clear hc hg
     go_wp2
     go_loopg [6, 7] 0 (fun g v i wx => v = .slice none 0 0 ∧ i = .int .i64 (k : Int) ∧ wx = wr)
     case atStart => exact ⟨rfl, rfl, rfl⟩
     case round =>
      obtain ⟨rfl, rfl, rfl⟩ := hrel
      go_wp2
      go_roundg (go - 1)
      case measure => have := HKG.out; omega
      case rel => exact ⟨k + 1, fs, bs, vs, by have := HKG.out; omega, by go_num, HK.out.fc.skip (.inl HGB.out), HK.out.tl, by have := HK.out.few; omega, HK.out.seen, HK.out.own, HK.out.ln, HK.out.bel, HK.out.up⟩
   | false =>
     have HGB := hide hg
     clear hc hg
     obtain ⟨p, hpN, hper⟩ := HBJ.out.per (show k < n from hlt)
     have HPER := hide hper
     clear hper
     have hbig : w1.heap.size + 1 ≤ wr.heap.size := by have := Row.lt HK.out.seen; omega
     have HOB := hide (show ∀ g, (Value.slice A3 fs.length c3).ownBlock = some g → g < wr.heap.size from fun g hg => (HK.out.own.lt g hg).2)
     have HS := hide (show BRow wr w1.heap.size (Pl.mark bs (Pl.cyc f k 0)) from HK.out.seen)
     have HFC := hide HK.out.fc
     have HTL := hide HK.out.tl
     have HLN := hide HK.out.ln
     have hfew := HK.out.few
     have hup1 := HK.out.up
     have HO0 := hide HK.out.own
     have HB0 := hide HK.out.bel
     obtain ⟨B, hB⟩ : ∃ B, B = wr.heap.size := ⟨_, rfl⟩
     rw [← hB] at hbig HOB
     clear HK
     go_wp2
     go_loopg [6, 7] p (fun g v i wx => ∃ j : Nat, j + g = p ∧ i = .int .i64 (Pl.it f j k : Nat) ∧ BRow wx w1.heap.size (Pl.mark bs (Pl.cyc f k j)) ∧ wx.ownsRow (w1.heap.size + 1) 22 1 (.slice A3 fs.length c3) fs.length vs ∧ wx.ownsRow B 3 1 v j ((Pl.cyc f k j).map (fun k : Nat => Value.int .i64 k)) ∧ Below w.heap.size w wx ∧ B ≤ wx.heap.size)
     case atStart => exact ⟨0, by omega, rfl, HS.out, HO0.out, World.ownsRow_nil _ _ _ _, HB0.out, by omega⟩
     case round =>
      clear HS
      obtain ⟨j, hjg, rfl, hS, hO, hC, hbel, hup⟩ := hrel
      have HJG := hide hjg
      have hjp : j ≤ p := by omega
      have HS := hide hS
      have HO := hide hO
      have HC := hide hC
      have HBL := hide hbel
      clear hjg hS hO hC hbel
      obtain ⟨A6, c6, rfl⟩ := owns_slice HC.out
      have hxn : Pl.it f j k < n := HBJ.out.it j k hlt
      by_cases hj : j < p
      ·have hnew := HFC.out.step_new HBJ.out hlt HGB.out HPER.out hj
       have HFX := hide (show Pl.it f (j + 1) k = l.getD (Pl.it f j k) 0 from (HF.out _ hxn).symm)
       have HCY := hide (Pl.cyc_succ f k j)
       obtain ⟨x, hx⟩ : ∃ x, x = Pl.it f j k := ⟨_, rfl⟩
       rw [← hx] at hxn hnew HFX HCY ⊢
       clear hx
       have c1 := HS.out.cell (i := x) (by rw [Pl.mark_len, HFC.out.len]; exact hxn)
       unfold Pl.gb at hnew
       rw [hnew] at c1
       have f1 := Row.free HS.out x
       have x0 : (0 : Int) ≤ (x : Int) := by omega
       have x1 : (x : Int) < (n : Int) := by omega
       obtain ⟨b, o, rfl, hcx⟩ := nats_at HW.out (k := x) hxn
       have hsz := Row.lt HS.out
       have S2 := hide (HS.out.set x true)
       have O2 := hide (ownsRow_setCell_below HO.out (a := ⟨w1.heap.size, x, none⟩) (by show w1.heap.size < w1.heap.size + 1; omega) (.bool true))
       have C2 := hide (ownsRow_setCell_below HC.out (a := ⟨w1.heap.size, x, none⟩) (by show w1.heap.size < B; omega) (.bool true))
       have B2 := hide (HBL.out.setCell (p := ⟨w1.heap.size, x, none⟩) hup1 (.bool true))
       have z2 : (wr.setCell ⟨w1.heap.size, x, none⟩ (.bool true)).heap.size = wr.heap.size := by simp
       have Z2 := hide z2
       clear z2 hnew
       go_upto_region 13 with fail
       obtain ⟨w2, hw2⟩ : ∃ W, W = wr.setCell ⟨w1.heap.size, x, none⟩ (.bool true) := ⟨_, rfl⟩
       rw [← hw2] at S2 O2 C2 B2 Z2 ⊢
       clear hw2 c1 f1 HS HO HC
       have hw2z : B ≤ w2.heap.size := by have := Z2.out; omega
       have hw2y := Row.lt S2.out
       obtain ⟨i0, hi0, hz0, hz1, hz2⟩ := info_parts intInfo
       go_wp2_with (at_builtin; refine wpList_append_lies _ (by rfl) _ _ 22 (by rfl) B 3 i0 (.int .i64 0) 1 8 Tryd.underlying22 hi0 hz0 hz1 hz2 rfl (by omega) _ j _ (by rfl) (C2.out.alloc _) ⟨w2.heap.size, 0, none⟩ 1 1 [.int .i64 (x : Int)] (by rfl) (by rfl) (one_news _ _) (by simp [Value.oneCell']) (by omega) (by unfold maxLen; omega) (by omega) (by simp; omega) (w2.heap.size + 1) (by simp) ?_; intro g3 c3' w3 own3 grow3 at3 lt3; have OWN3 := hide own3; have GR3 := hide grow3; have B3 := hide ((B2.out.alloc B2.out.size (.cells #[.int .i64 (x : Int)] 3)).grown GR3.out (by have := B2.out.size; simp; omega) (fun q hq => by have := (C2.out.lt q hq).1; omega)); have hcx3 := cell_below hcx B3.out; clear own3 grow3 at3)
       go_roundg (gk - 1)
       case measure => have := HJG.out; omega
       case rel =>
        refine ⟨j + 1, by have := HJG.out; omega, by rw [HFX.out, List.getD_eq_getElem?_getD], ?_, ?_, ?_, B3.out, ?_⟩
        ·rw [HCY.out, Pl.mark_append]
         refine Row.grown (Row.alloc S2.out (.cells #[.int .i64 (x : Int)] 3)) GR3.out ?_
         intro e
         obtain ⟨cs, fr, h3⟩ := ownsRow_block (C2.out.alloc (.cells #[.int .i64 (x : Int)] 3)) _ e.symm
         have h4 := Row.alloc S2.out (.cells #[.int .i64 (x : Int)] 3)
         rw [h4] at h3
         injection h3 with h3
         injection h3 with _ h5
         exact absurd h5 (by decide)
        ·refine (O2.out.alloc (.cells #[.int .i64 (x : Int)] 3)).kept GR3.out ?_
         cases hm : (Value.slice A3 fs.length c3).ownBlock with
         | none => exact .inl rfl
         | some g =>
           refine .inr (fun e => ?_)
           have h1 := HOB.out g hm
           have h2 := (C2.out.lt g e.symm).1
           omega
        ·rw [HCY.out, List.map_append]
         exact OWN3.out
        ·have := GR3.out.size
         simp at this
         omega
      ·obtain rfl : j = p := by omega
       have hend := HFC.out.step_end HBJ.out hlt HPER.out
       have hp0 := HPER.out.1
       obtain ⟨x, hx⟩ : ∃ x, x = Pl.it f j k := ⟨_, rfl⟩
       rw [← hx] at hxn hend ⊢
       clear hx
       have c1 := HS.out.cell (i := x) (by rw [Pl.mark_len, HFC.out.len]; exact hxn)
       unfold Pl.gb at hend
       rw [hend] at c1
       have x0 : (0 : Int) ≤ (x : Int) := by omega
       have x1 : (x : Int) < (n : Int) := by omega
       have hp1 : (0 : Int) < (j : Int) := by omega
       have hsz := Row.lt HS.out
       clear hend
       obtain ⟨i0, hi0, hz0, hz1, hz2⟩ := info_parts rowInfo
       have P1 : ∀ u ∈ [Value.slice A6 j c6], u.oneCell' = true := by simp [Value.oneCell']
       go_wp2_with (at_builtin; refine wpList_append_lies _ (by rfl) _ _ 52 (by rfl) (w1.heap.size + 1) 22 i0 (.slice none 0 0) 1 24 Tryd.underlying52 hi0 hz0 hz1 hz2 rfl (by omega) _ fs.length vs (by rfl) (HO.out.alloc _) ⟨wr.heap.size, 0, none⟩ 1 1 [.slice A6 j c6] (by rfl) (by rfl) (World.news_of_block (cs := #[.slice A6 j c6]) (t := 22) (fr := (0, 0)) (heap_alloc_new wr _)) P1 (by omega) (by unfold maxLen; omega) (by omega) (by simp; omega) (wr.heap.size + 1) (by simp) ?_; intro g3 c3' w3 own3 grow3 at3 lt3; have OWN3 := hide own3; have GR3 := hide grow3; clear own3 grow3 at3)
       go_roundg (go - 1)
       case measure => have := HKG.out; omega
       case rel =>
        refine ⟨k + 1, fs ++ [Pl.cyc f k j], Pl.mark bs (Pl.cyc f k j), vs ++ [.slice A6 j c6], by have := HKG.out; omega, by go_num, ?_⟩
        refine ⟨HFC.out.add HBJ.out (fun x hx => hx) (fun x hx => hx) hlt trivial HGB.out HPER.out, HFC.out.add_tl HBJ.out hlt HGB.out HPER.out HTL.out, by simp; omega, ?_, by simpa using OWN3.out, HLN.out.add (by have := HO.out.1; simpa using this) (by rw [Pl.cyc_len]), ?_, hup1⟩
        ·refine Row.grown (Row.alloc HS.out (.cells #[.slice A6 j c6] 22)) GR3.out ?_
         intro e
         obtain ⟨cs, fr, h3⟩ := ownsRow_block (HO.out.alloc (.cells #[.slice A6 j c6] 22)) _ e.symm
         have h4 := Row.alloc HS.out (.cells #[.slice A6 j c6] 22)
         rw [h4] at h3
         injection h3 with h3
         injection h3 with _ h5
         exact absurd h5 (by decide)
        ·exact (HBL.out.alloc HBL.out.size _).grown GR3.out (by have := HBL.out.size; simp; omega) (fun q hq => by have := (HO.out.lt q hq).1; omega)
  ·have hki : ¬ ((k : Int) < (n : Int)) := by omega
   go_wp2
   go_ret
   obtain rfl : k = n := by omega
   exact ⟨A3, c3, fs, bs, vs, rfl, HK.out.fc, HK.out.tl, HK.out.few, own_rowT HK.out.own, HK.out.ln, HK.out.bel⟩
end Go.Proofs.YtcaoblilkgajoaaDoor
end
section
namespace Go.Proofs.YtcaoblilkgajoaaDoor
open Go Go.RowKit
attribute [local go_sem ↓] Go.wp_at_zero Go.wp_at_succ
theorem sgF_two (fs : List (List Nat)) : Pl.sgF fs = 1 ∨ Pl.sgF fs = -1 := by
 rw [Pl.sgF_eq _ fs rfl]
 omega
set_option maxRecDepth 100000 in
set_option maxHeartbeats 2000000 in
theorem psign_yes (n : Nat) (ws : List Int) (hok : ∀ x, x ∈ ws → Pl.LetOk n x) (A : Option Addr) (c : Nat) (w : World) (hw : IntsAt w A n (nats (Pl.pmR n ws))) (hn : n ≤ 100) :
 Calls Tryd.prog 34 #[.slice A n c] w fun e w' => e = .returned (.int .i64 (1 - 2 * ((ws.length % 2 : Nat) : Int))) ∧ Below w.heap.size w w' := by
 have hb := Pl.trk_bij n ws hok
 have hf : ∀ i, i < n → (Pl.pmR n ws).getD i 0 = Pl.trk i ws := fun i hi => Pl.pmR_get ws hi
 have HW := hide hw
 have HOK := hide hok
 have HB := hide hb
 have HF := hide hf
 have HM := hide (show ∀ i, i < n → (Pl.pmR n ws).getD i 0 < n from fun i hi => by rw [hf i hi]; exact hb.maps i hi)
 have HI := hide (show ∀ i j, i < n → j < n → (Pl.pmR n ws).getD i 0 = (Pl.pmR n ws).getD j 0 → i = j from fun i j hi hj e => by rw [hf i hi, hf j hj] at e; exact hb.inj i j hi hj e)
 clear hw hok hb hf
 go_enter Tryd.func34, Tryd.ntmps34
 go_wp2_with fail
 refine (pvalid_yes _ A n c _ HW.out (by omega) HM.out HI.out).mono ?_
 rintro e w1 ⟨rfl, hb1⟩
 have B1 := hide hb1
 clear hb1
 go_wp2_with fail
 refine (pcycles_yes (fun i => Pl.trk i ws) _ A n c _ (HW.out.keep B1.out) (by omega) HF.out HB.out).mono ?_
 rintro e w2 ⟨A2, c2, fs, bs, vs, rfl, hfc, htl, few, hrow, hln, hb2⟩
 have B2 := hide (B1.out.trans (hb2.mono B1.out.size))
 have HSG := hide (show Pl.sgF fs = 1 - 2 * ((ws.length % 2 : Nat) : Int) from Pl.sgF_word HOK.out hfc (fun x hx => trivial) htl)
 have HR := hide hrow
 have HLN := hide hln
 have HLL := hide (show ∀ l, l ∈ fs → l.length ≤ n from fun l hl => by
  obtain ⟨g, p, h1, h2, h3, rfl⟩ := hfc.is l hl
  rw [Pl.cyc_len]
  obtain ⟨q, hq, hp⟩ := HB.out.per (show g < n from h1)
  rcases Nat.lt_trichotomy p q with h | h | h
  ·exact absurd h3.2.1 (hp.2.2 p h3.1 h)
  ·omega
  ·exact absurd hp.2.1 (h3.2.2 q hp.1 h))
 clear hfc htl hrow hln hb2
 go_wp2
 go_loopg [3, 5, 12] fs.length (fun g s3 s5 i wx => ∃ k : Nat, k + g = fs.length ∧ i = .int .i64 (k : Int) ∧ s3 = .int .i64 (Pl.sgF (fs.take k)) ∧ wx = w2)
 case atStart => exact ⟨0, by omega, rfl, rfl, rfl⟩
 case round =>
  obtain ⟨k, hkg, rfl, rfl, rfl⟩ := hrel
  have HKG := hide hkg
  have hkn : k ≤ fs.length := by omega
  clear hkg
  by_cases hk : k < fs.length
  ·have hki : (k : Int) < (fs.length : Int) := by omega
   have k0 : (0 : Int) ≤ (k : Int) := by omega
   have ef : fs[k]? = some fs[k] := List.getElem?_eq_getElem hk
   obtain ⟨A5, c5, ev⟩ := HLN.out k _ ef
   obtain ⟨b, o, rfl, hc⟩ := HR.out.row.at_ hk
   have ev2 := ev
   rw [List.getElem?_eq_getElem (by have := HR.out.1; omega)] at ev2
   injection ev2 with ev2
   rw [ev2] at hc
   have HT := hide (show Pl.sgF (fs.take (k + 1)) = Pl.sg1 (Pl.sgF (fs.take k)) fs[k] by rw [Pl.take_one ef, Pl.sgF_snoc])
   obtain ⟨σ, hσ⟩ : ∃ σ, σ = Pl.sgF (fs.take k) := ⟨_, rfl⟩
   have hσ2 := sgF_two (fs.take k)
   have hml := HLL.out fs[k] (List.getElem_mem hk)
   rw [← hσ] at HT hσ2 ⊢
   have HTT := hide (show ∀ m, m = fs[k].length → Pl.sg1 σ fs[k] = if m % 2 = 0 then -σ else σ from fun m hm => by rw [hm]; rfl)
   obtain ⟨m, hm⟩ : ∃ m, m = fs[k].length := ⟨_, rfl⟩
   rw [← hm] at hc hml
   have HT2 := hide (HT.out.trans (HTT.out m hm))
   have s1 : -1 ≤ σ := by omega
   have s2 : σ ≤ 1 := by omega
   clear HT HTT ef ev ev2 hσ hσ2 hm
   by_cases h2 : m % 2 = 0
   ·have e1 : ((m : Int) % 2 == 0) = true := by rw [beq_iff_eq]; omega
    have e2 : ((m : Int).tmod 2 == 0) = true := by rw [Int.tmod_eq_emod_of_nonneg (by omega)]; exact e1
    have HT3 := hide (HT2.out.trans (if_pos h2))
    clear h2
    go_wp2
    go_roundg (gk - 1)
    case measure => have := HKG.out; omega
    case rel => exact ⟨k + 1, by have := HKG.out; omega, by go_num, by rw [HT3.out], rfl⟩
   ·have e1 : ((m : Int) % 2 == 0) = false := by rw [beq_eq_false_iff_ne]; omega
    have e2 : ((m : Int).tmod 2 == 0) = false := by rw [Int.tmod_eq_emod_of_nonneg (by omega)]; exact e1
    have HT3 := hide (HT2.out.trans (if_neg h2))
    clear h2
    go_wp2
    go_roundg (gk - 1)
    case measure => have := HKG.out; omega
    case rel => exact ⟨k + 1, by have := HKG.out; omega, by go_num, by rw [HT3.out], rfl⟩
  ·have hki : ¬ ((k : Int) < (fs.length : Int)) := by omega
   have HE := hide (show Pl.sgF (fs.take k) = 1 - 2 * ((ws.length % 2 : Nat) : Int) by rw [List.take_of_length_le (by omega)]; exact HSG.out)
   rw [HE.out]
   go_wp2
   go_ret
   exact ⟨rfl, B2.out⟩
theorem ownsRow_store {W : World} {base b n : Nat} {t : TypeId} {v : Value} {xs vs : List Value} (h : W.ownsRow base 3 1 v n xs) (hr : Row W b t vs) (ht : 3 ≠ t) (o : Nat) (u : Value) : (W.setCell ⟨b, o, none⟩ u).ownsRow base 3 1 v n xs := by
 have hne : some b ≠ v.ownBlock := by
  intro e
  obtain ⟨cs, fr, h3⟩ := ownsRow_block h b e.symm
  rw [hr] at h3
  injection h3 with h3
  injection h3 with _ h4
  exact ht h4.symm
 obtain ⟨A, c, rfl⟩ := owns_slice h
 refine ⟨h.1, ?_⟩
 rcases h.2 with hz | ⟨g, cap, cur, r1, r2, r3, r4⟩
 ·exact .inl hz
 ·refine .inr ⟨g, cap, cur, r1, r2, ?_, r4⟩
  have hgb : g ≠ b := fun e => hne (by rw [r1, ← e]; rfl)
  exact (Below.heap_setCell W ⟨b, o, none⟩ u g hgb).trans r3
structure MuS (w : World) (s t : Int) (A B : Option Addr) (n m c d : Nat) (W : World) : Prop where
 a : Row W w.heap.size 24 [.int .i64 s, .slice A n c]
 b : Row W (w.heap.size + 1) 24 [.int .i64 t, .slice B m d]
 r : Row W (w.heap.size + 1 + 1) 24 [.int .i64 0, .slice none 0 0]
 bel : Below w.heap.size w W
section
variable {w W W' : World} {s t : Int} {A B : Option Addr} {n m c d : Nat}
theorem MuS.below (h : MuS w s t A B n m c d W) (hb : Below W.heap.size W W') : MuS w s t A B n m c d W' := ⟨h.a.below hb, h.b.below hb, h.r.below hb, h.bel.trans (hb.mono h.bel.size)⟩
structure MuT (w : World) (s t : Int) (A B : Option Addr) (n m c d : Nat) (W : World) : Prop where
 a : Row W w.heap.size 24 [.int .i64 s, .slice A n c]
 b : Row W (w.heap.size + 1) 24 [.int .i64 t, .slice B m d]
 r : ∃ u v, Row W (w.heap.size + 1 + 1) 24 [u, v]
 bel : Below w.heap.size w W
theorem MuT.below (h : MuT w s t A B n m c d W) (hb : Below W.heap.size W W') : MuT w s t A B n m c d W' := ⟨h.a.below hb, h.b.below hb, let ⟨u, v, r⟩ := h.r; ⟨u, v, r.below hb⟩, h.bel.trans (hb.mono h.bel.size)⟩
theorem MuT.drew (h : MuT w s t A B n m c d W) : MuT w s t A B n m c d W.drew := h.below (Below.refl _ _).drew
theorem MuT.alloc (h : MuT w s t A B n m c d W) (o : Obj) : MuT w s t A B n m c d (W.alloc o) := h.below ((Below.refl _ _).alloc (Nat.le_refl _) o)
theorem MuT.set0 (h : MuT w s t A B n m c d W) (x : Value) : MuT w s t A B n m c d (W.setCell ⟨w.heap.size + 1 + 1, 0, none⟩ x) :=
 ⟨h.a.other (by show _ ≠ w.heap.size + 1 + 1; omega) _, h.b.other (by show _ ≠ w.heap.size + 1 + 1; omega) _, let ⟨u, v, r⟩ := h.r; ⟨x, v, r.set 0 x⟩, h.bel.setCell (by show _ ≤ w.heap.size + 1 + 1; omega) _⟩
theorem MuT.set1 (h : MuT w s t A B n m c d W) (x : Value) : MuT w s t A B n m c d (W.setCell ⟨w.heap.size + 1 + 1, 1, none⟩ x) :=
 ⟨h.a.other (by show _ ≠ w.heap.size + 1 + 1; omega) _, h.b.other (by show _ ≠ w.heap.size + 1 + 1; omega) _, let ⟨u, v, r⟩ := h.r; ⟨u, x, r.set 1 x⟩, h.bel.setCell (by show _ ≤ w.heap.size + 1 + 1; omega) _⟩
theorem MuT.all (h : MuT w s t A B n m c d W) : W.cell? ⟨w.heap.size, 0, none⟩ = some (.int .i64 s) ∧ W.cell? ⟨w.heap.size, 1, none⟩ = some (.slice A n c) ∧ W.cell? ⟨w.heap.size + 1, 1, none⟩ = some (.slice B m d) ∧ W.cell? ⟨w.heap.size + 1 + 1, 0, none⟩ = some (cv W ⟨w.heap.size + 1 + 1, 0, none⟩) ∧ W.cell? ⟨w.heap.size + 1 + 1, 1, none⟩ = some (cv W ⟨w.heap.size + 1 + 1, 1, none⟩) ∧ (∀ o, W.frozen? ⟨w.heap.size + 1 + 1, o, none⟩ = false) ∧ MuT w s t A B n m c d W :=
 let ⟨_, _, r⟩ := h.r
 ⟨(box2b h.a).1, (box2b h.a).2.1, (box2b h.b).2.1, cv_some (box2b r).1, cv_some (box2b r).2.1, (box2b r).2.2, h⟩
theorem MuS.toT (h : MuS w s t A B n m c d W) : MuT w s t A B n m c d W := ⟨h.a, h.b, ⟨_, _, h.r⟩, h.bel⟩
theorem MuS.start (w : World) (s t : Int) (A B : Option Addr) (n m c d : Nat) : MuS w s t A B n m c d (((w.alloc (.cells #[.int .i64 s, .slice A n c] 24)).alloc (.cells #[.int .i64 t, .slice B m d] 24)).alloc (.cells #[.int .i64 0, .slice none 0 0] 24)) := by
 have h0 := row_at (W := w) (g := w.heap.size) (t := 24) (vs := [.int .i64 s, .slice A n c]) rfl
 have h1 := row_at (W := w.alloc (.cells #[.int .i64 s, .slice A n c] 24)) (g := w.heap.size + 1) (t := 24) (vs := [.int .i64 t, .slice B m d]) (by simp)
 have h2 := row_at (W := (w.alloc (.cells #[.int .i64 s, .slice A n c] 24)).alloc (.cells #[.int .i64 t, .slice B m d] 24)) (g := w.heap.size + 1 + 1) (t := 24) (vs := [.int .i64 0, .slice none 0 0]) (by simp)
 exact ⟨(h0.alloc _).alloc _, h1.alloc _, h2, (((Below.refl _ _).alloc (Nat.le_refl _) _).alloc (by simp) _).alloc (by simp; omega) _⟩
end
theorem mul_cells {w W : World} {s t : Int} {A B : Option Addr} {n m c d : Nat} (h : MuT w s t A B n m c d W) (u v : Value) :
 ((W.setCell ⟨w.heap.size + 1 + 1, 0, none⟩ u).setCell ⟨w.heap.size + 1 + 1, 1, none⟩ v).cell? ⟨w.heap.size + 1 + 1, 0, none⟩ = some u ∧ ((W.setCell ⟨w.heap.size + 1 + 1, 0, none⟩ u).setCell ⟨w.heap.size + 1 + 1, 1, none⟩ v).cell? ⟨w.heap.size + 1 + 1, 1, none⟩ = some v := by
 obtain ⟨x, y, r⟩ := h.r
 obtain ⟨a, b, _⟩ := box2b ((r.set 0 u).set 1 v)
 exact ⟨a, b⟩
theorem mul_bel {w W : World} {s t : Int} {A B : Option Addr} {n m c d : Nat} (h : MuT w s t A B n m c d W) (u v : Value) : Below w.heap.size w ((W.setCell ⟨w.heap.size + 1 + 1, 0, none⟩ u).setCell ⟨w.heap.size + 1 + 1, 1, none⟩ v) :=
 (h.bel.setCell (p := ⟨w.heap.size + 1 + 1, 0, none⟩) (by show _ ≤ w.heap.size + 1 + 1; omega) u).setCell (p := ⟨w.heap.size + 1 + 1, 1, none⟩) (by show _ ≤ w.heap.size + 1 + 1; omega) v
theorem mul_row {w W : World} {s t : Int} {A B : Option Addr} {n m c d base k : Nat} {z : Value} {zs : List Value} (h : MuT w s t A B n m c d W) (o : W.ownsRow base 3 1 z k zs) (u v : Value) : ((W.setCell ⟨w.heap.size + 1 + 1, 0, none⟩ u).setCell ⟨w.heap.size + 1 + 1, 1, none⟩ v).ownsRow base 3 1 z k zs :=
 let ⟨x, y, r⟩ := h.r
 ownsRow_store (ownsRow_store o r (by decide) 0 u) (r.set 0 u) (by decide) 1 v
def MulNo (k : Int) (e : Ending) : Prop := e = .returned (.tuple #[.agg #[.int .i64 0, .slice none 0 0], .int .i64 k])
def MulPost (s t : Int) (xs ys : List Int) (w : World) (e : Ending) (w' : World) : Prop :=
 (¬ (Pl.BV s xs ∧ Pl.BV t ys) → MulNo 1 e) ∧ (Pl.BV s xs → Pl.BV t ys → s ≠ t → MulNo 2 e) ∧
 (Pl.BV s xs → Pl.BV t ys → s = t → xs.length + ys.length ≤ 200 → ∃ (A : Option Addr) (c : Nat), e = .returned (.tuple #[.agg #[.int .i64 s, .slice A (xs.length + ys.length) c], .int .i64 0]) ∧ RowT w' 3 A (xs.length + ys.length) ((xs ++ ys).map (.int .i64))) ∧ Below w.heap.size w w'
set_option maxRecDepth 100000 in
set_option maxHeartbeats 4000000 in
theorem mul_any (s t : Int) (xs ys : List Int) (A B : Option Addr) (n m c d : Nat) (w : World) (hx : IntsAt w A n xs) (hy : IntsAt w B m ys) (hn : n ≤ maxLen) (hm : m ≤ maxLen) (h200 : n + m ≤ 200) :
 Calls Tryd.prog 33 #[.agg #[.int .i64 s, .slice A n c], .agg #[.int .i64 t, .slice B m d]] w (MulPost s t xs ys w) := by
 have HX := hide hx
 have HY := hide hy
 have LX := hide hx.len
 have LY := hide hy.len
 have M0 := hide (MuS.start w s t A B n m c d)
 obtain ⟨a0, a1, a2⟩ := box2b M0.out.a
 obtain ⟨b0, b1, b2⟩ := box2b M0.out.b
 obtain ⟨r0, r1, r2⟩ := box2b M0.out.r
 clear hx hy
 go_enter Tryd.func33, Tryd.ntmps33
 go_wp2_with fail
 refine (bvalid_any s xs A n c _ (HX.out.keep M0.out.bel) hn).mono ?_
 rintro e w1 ⟨rfl, hb1⟩
 have M1 := hide (M0.out.below hb1)
 clear hb1 M0 a0 a1 a2 b0 b1 b2 r0 r1 r2
 obtain ⟨a0, a1, a2⟩ := box2b M1.out.a
 obtain ⟨b0, b1, b2⟩ := box2b M1.out.b
 obtain ⟨r0, r1, r2⟩ := box2b M1.out.r
 by_cases hv : Pl.BV s xs
 ·rw [Pl.vb_true hv]
  have HV := hide hv
  clear hv
  go_wp2_with fail
  refine (bvalid_any t ys B m d _ (HY.out.keep M1.out.bel) hm).mono ?_
  rintro e w2 ⟨rfl, hb2⟩
  have M2 := hide (M1.out.below hb2)
  clear hb2 M1 a0 a1 a2 b0 b1 b2 r0 r1 r2
  obtain ⟨a0, a1, a2⟩ := box2b M2.out.a
  obtain ⟨b0, b1, b2⟩ := box2b M2.out.b
  obtain ⟨r0, r1, r2⟩ := box2b M2.out.r
  by_cases hu : Pl.BV t ys
  ·rw [Pl.vb_true hu]
   have HU := hide hu
   clear hu
   by_cases hst : s = t
   ·subst hst
    have hle : ¬ ((200 : Int) < (n : Int) + (m : Int)) := by omega
    have HF := hide (show ∀ (A9 : Option Addr) (c9 : Nat) (W : World) (base : Nat), W.ownsRow base 3 1 (.slice A9 (n + m) c9) (n + m) ((xs ++ ys).map (.int .i64)) → Below w.heap.size w W → MulPost s s xs ys w (.returned (.tuple #[.agg #[.int .i64 s, .slice A9 (n + m) c9], .int .i64 0])) W from fun A9 c9 W base h1 h2 =>
     ⟨fun h => absurd ⟨HV.out, HU.out⟩ h, fun _ _ h => absurd rfl h, fun _ _ _ _ => ⟨A9, c9, by rw [LX.out, LY.out], by rw [LX.out, LY.out]; exact own_rowT h1⟩, h2⟩)
    have M3 := hide (M2.out.below (Below.refl _ _).drew)
    go_upto_region 7 with fail
    go_region_held3 (fun w' => w'.cell? ⟨w.heap.size, 0, none⟩ = some (.int .i64 s) ∧ w'.cell? ⟨w.heap.size, 1, none⟩ = some (.slice A n c) ∧ w'.cell? ⟨w.heap.size + 1, 1, none⟩ = some (.slice B m d) ∧ w'.cell? ⟨w.heap.size + 1 + 1, 0, none⟩ = some (cv w' ⟨w.heap.size + 1 + 1, 0, none⟩) ∧ w'.cell? ⟨w.heap.size + 1 + 1, 1, none⟩ = some (cv w' ⟨w.heap.size + 1 + 1, 1, none⟩) ∧ (∀ o, w'.frozen? ⟨w.heap.size + 1 + 1, o, none⟩ = false) ∧ MuT w s s A B n m c d w')
     ((go_split_ands; refine MuT.all ?_; (repeat (first | (with_reducible assumption) | (with_reducible exact M3.out.toT) | (with_reducible exact M2.out.toT) | (with_reducible refine MuT.drew ?_) | (with_reducible refine MuT.alloc ?_ _) | (with_reducible refine MuT.set0 ?_ _) | (with_reducible refine MuT.set1 ?_ _) | (with_reducible refine MuT.below ?_ hb9)))))
     (first
     | (go_at_call 60
        refine Calls.mono (concat_ex n m _ xs ys _ (by omega) ?_ ?_) ?_
        ·refine ⟨A, c, ?_, HX.out.keep (MuT.bel (s := s) (t := s) (A := A) (B := B) (n := n) (m := m) (c := c) (d := d) ?_)⟩
         ·first | rfl | (go_simp; done)
         ·repeat (first | (with_reducible assumption) | (with_reducible exact M3.out.toT) | (with_reducible exact M2.out.toT) | (with_reducible refine MuT.drew ?_) | (with_reducible refine MuT.alloc ?_ _) | (with_reducible refine MuT.set0 ?_ _) | (with_reducible refine MuT.set1 ?_ _))
        ·refine ⟨B, d, ?_, HY.out.keep (MuT.bel (s := s) (t := s) (A := A) (B := B) (n := n) (m := m) (c := c) (d := d) ?_)⟩
         ·first | rfl | (go_simp; done)
         ·repeat (first | (with_reducible assumption) | (with_reducible exact M3.out.toT) | (with_reducible exact M2.out.toT) | (with_reducible refine MuT.drew ?_) | (with_reducible refine MuT.alloc ?_ _) | (with_reducible refine MuT.set0 ?_ _) | (with_reducible refine MuT.set1 ?_ _))
        rintro e w9 ⟨A9, c9, rfl, own9, hb9⟩))
    all_goals (have hM9 : MuT w s s A B n m c d w9 := (by repeat (first | (with_reducible assumption) | (with_reducible exact M3.out.toT) | (with_reducible exact M2.out.toT) | (with_reducible refine MuT.drew ?_) | (with_reducible refine MuT.alloc ?_ _) | (with_reducible refine MuT.below ?_ hb9))))
    all_goals (have M9 := hide hM9; have OWN9 := hide own9; clear hM9)
    all_goals (go_wp2_with fail)
    all_goals (
     refine bodyPost_ret (v := .tuple #[.agg #[.int .i64 s, .slice A9 (n + m) c9], .int .i64 0]) ?_ rfl ?_
     ·obtain ⟨e0, e1⟩ := mul_cells M9.out (.int .i64 s) (.slice A9 (n + m) c9)
      simp [results, Tryd.results33, go_sem, e0, e1]
     ·exact HF.out A9 c9 _ _ (mul_row M9.out OWN9.out _ _) (mul_bel M9.out _ _))
   ·have hne : (s != t) = true := by rw [bne_iff_ne]; exact hst
    have HN := hide (show MulPost s t xs ys w (.returned (.tuple #[.agg #[.int .i64 0, .slice none 0 0], .int .i64 2])) _ from
     ⟨fun h => absurd ⟨HV.out, HU.out⟩ h, fun _ _ _ => rfl, fun _ _ h => absurd h hst, mul_bel M2.out.toT (.int .i64 0) (.slice none 0 0)⟩)
    clear hst
    go_wp2_with fail
    refine bodyPost_ret (v := .tuple #[.agg #[.int .i64 0, .slice none 0 0], .int .i64 2]) ?_ rfl ?_
    ·obtain ⟨e0, e1⟩ := mul_cells M2.out.toT (.int .i64 0) (.slice none 0 0)
     simp [results, Tryd.results33, go_sem, e0, e1]
    ·exact HN.out
  ·rw [Pl.vb_false hu]
   have HN := hide (show MulPost s t xs ys w (.returned (.tuple #[.agg #[.int .i64 0, .slice none 0 0], .int .i64 1])) _ from
    ⟨fun _ => rfl, fun _ h => absurd h hu, fun _ h => absurd h hu, mul_bel M2.out.toT (.int .i64 0) (.slice none 0 0)⟩)
   clear hu
   go_wp2_with fail
   refine bodyPost_ret (v := .tuple #[.agg #[.int .i64 0, .slice none 0 0], .int .i64 1]) ?_ rfl ?_
   ·obtain ⟨e0, e1⟩ := mul_cells M2.out.toT (.int .i64 0) (.slice none 0 0)
    simp [results, Tryd.results33, go_sem, e0, e1]
   ·exact HN.out
 ·rw [Pl.vb_false hv]
  have HN := hide (show MulPost s t xs ys w (.returned (.tuple #[.agg #[.int .i64 0, .slice none 0 0], .int .i64 1])) _ from
   ⟨fun _ => rfl, fun h => absurd h hv, fun h => absurd h hv, mul_bel M1.out.toT (.int .i64 0) (.slice none 0 0)⟩)
  clear hv
  go_wp2_with fail
  refine bodyPost_ret (v := .tuple #[.agg #[.int .i64 0, .slice none 0 0], .int .i64 1]) ?_ rfl ?_
  ·obtain ⟨e0, e1⟩ := mul_cells M1.out.toT (.int .i64 0) (.slice none 0 0)
   simp [results, Tryd.results33, go_sem, e0, e1]
  ·exact HN.out
end Go.Proofs.YtcaoblilkgajoaaDoor
end
