/-
 The texts Ue, Pmv, Bze, Bzg, Bzi in one.
-/
import Derived.Test.YtcaoblilkgajoaaDoorC11
import Derived.Test.YtcaoblilkgajoaaDoorC03
import Derived.Deep.DeepCutAuto
import Derived.Deep.CutBlock
import Derived.StillTailTactics
import Derived.Deep.RegionWith
import Derived.Deep.RegionHeld3
import Derived.Deep.DrawnRows
import Derived.Test.YtcaoblilkgajoaaDoorC04
import Derived.Test.YtcaoblilkgajoaaDoorC02
import Derived.Test.YtcaoblilkgajoaaDoorC00
import Derived.Test.YtcaoblilkgajoaaDoorC08
import Derived.Test.YtcaoblilkgajoaaDoorC01
import Derived.Test.YtcaoblilkgajoaaDoorC07
import Derived.Test.YtcaoblilkgajoaaDoorC10
import Derived.Test.YtcaoblilkgajoaaDoorC09
set_option linter.unusedVariables false
set_option linter.unusedSimpArgs false
section
namespace Go.Proofs.YtcaoblilkgajoaaDoor
open Go Go.RowKit
set_option maxRecDepth 100000 in
set_option maxHeartbeats 2000000 in
theorem strands_any (d : Pl.Dg) (hd : Pl.Valid d) (A B : Option Addr) (cp cq m : Nat) (w : World) (hm : m = 4 * d.n) (hg : DgAt w A B d) :
 Calls Tryd.prog 58 #[.agg #[.slice A d.n cp, .slice B m cq, .int .i64 d.lp]] w fun e w' => ∃ (A5 : Option Addr) (c5 : Nat), e = .returned (.slice A5 (strN d) c5) ∧ Below w.heap.size w w' := by
 have hn := hd.wf.few
 have HM := hide hm
 have HG := hide hg
 have HD := hide hd
 clear hg hm
 have X0 := hide (row_at (W := w) (g := w.heap.size) (t := 28) (vs := [.slice A d.n cp, .slice B m cq, .int .i64 d.lp]) rfl)
 have B0 := hide (show Below w.heap.size w (w.alloc (.cells #[.slice A d.n cp, .slice B m cq, .int .i64 d.lp] 28)) from (Below.refl _ _).alloc (Nat.le_refl _) _)
 go_enter Tryd.func58, Tryd.ntmps58
 go_wp2_with fail
 refine (valid_yes d hd A B cp cq m _ HM.out (HG.out.keep B0.out)).mono ?_
 rintro e w1 ⟨rfl, hb1⟩
 have X1 := hide (X0.out.below hb1)
 have B1 := hide (B0.out.trans (hb1.mono B0.out.size))
 clear hb1 X0 B0
 obtain ⟨d0, d1, d2, d3⟩ := box3 X1.out
 have G1 := hide (HG.out.keep B1.out)
 have hmm : IntsAt w1 B m (nats d.mt) := by have h := G1.out.m; rwa [← HM.out] at h
 have ST := hide (nextS_steps d B cq m w.heap.size _ _ w1 HM.out hd.wf X1.out hmm)
 have OT := hide (outS_asks d A B cp cq m w.heap.size _ w1 (by omega) X1.out G1.out.s)
 rw [← HM.out] at ST OT
 have hm1 : m ≤ 1000 := by have := HM.out; omega
 have HB := hide (show Pl.Bij m (Pl.dart d) (Pl.st d) by rw [HM.out]; exact Pl.st_bij hd.wf)
 clear hmm
 go_wp2_with fail
 have hc := cyclesS_any (.pointer (some ⟨w.heap.size, 0, none⟩)) (Pl.out d) m (Pl.dart d) (Pl.st d) w1 ST.out OT.out HB.out (fun x hx => by rw [HM.out] at hx; exact hx) (fun x hx => by rw [HM.out]; exact hx) hm1
 refine hc.mono ?_
 rintro e w2 ⟨A5, c5, fs, bs, vs, rfl, hfc, _, _, _, hb2, _⟩
 have HE := hide (show fs.length = strN d from (hfc.cls HB.out (fun x hx => by rw [HM.out] at hx; exact hx)).unique (by rw [HM.out]; exact strN_str d HD.out.wf))
 have B2 := hide (B1.out.trans (hb2.mono B1.out.size))
 clear hfc hb2 hc
 go_wp2
 go_ret
 exact ⟨A5, c5, by rw [HE.out]; rfl, B2.out⟩
set_option maxRecDepth 100000 in
set_option maxHeartbeats 1000000 in
theorem comps_any (d : Pl.Dg) (hd : Pl.Valid d) (A B : Option Addr) (cp cq m : Nat) (w : World) (hm : m = 4 * d.n) (hg : DgAt w A B d) :
 Calls Tryd.prog 31 #[.agg #[.slice A d.n cp, .slice B m cq, .int .i64 d.lp]] w (fun e w' => e = .returned (.int .i64 ((strN d + d.lp : Nat) : Int)) ∧ Below w.heap.size w w') := by
 have hn := hd.wf.few
 have hl := hd.wf.lp
 have HM := hide hm
 have HG := hide hg
 have HD := hide hd
 have hk := Pl.cnt_top (Pl.Lst (fun h => h < 4 * d.n ∧ Pl.out d h = true) (Pl.Orb (Pl.st d))) (4 * d.n)
 have X0 := hide (row_at (W := w) (g := w.heap.size) (t := 28) (vs := [.slice A d.n cp, .slice B m cq, .int .i64 d.lp]) rfl)
 have B0 := hide (show Below w.heap.size w (w.alloc (.cells #[.slice A d.n cp, .slice B m cq, .int .i64 d.lp] 28)) from (Below.refl _ _).alloc (Nat.le_refl _) _)
 have hsN : strN d ≤ 1000 := by unfold strN strK; omega
 clear hm hg hd hk
 have D0 := hide (DC.start w (.slice A d.n cp) (.slice B m cq) (.int .i64 d.lp))
 clear X0 B0
 obtain ⟨s, hs⟩ : ∃ s, s = strN d := ⟨_, rfl⟩
 have HS := hide hs
 rw [← hs] at hsN ⊢
 clear hs
 have hwr : IntKind.i64.wrap ((s : Int) + (d.lp : Int)) = (s : Int) + (d.lp : Int) := IntWalk.i64_in _ (by omega)
 go_enter Tryd.func31, Tryd.ntmps31
 obtain ⟨b0, b1, b2, _⟩ := D0.out.all
 go_wp2_with fail
 refine (valid_yes d HD.out A B cp cq m _ HM.out (HG.out.keep D0.out.2)).mono ?_
 rintro e w1 ⟨rfl, hb1⟩
 have D1 := hide (D0.out.below hb1)
 clear hb1 b0 b1 b2 D0
 have D0 := D1
 clear D1
 obtain ⟨c0, c1, c2, _⟩ := D0.out.all
 go_wp2_with fail
 go_region_held3 (fun w' => w'.cell? ⟨w.heap.size, 0, none⟩ = some (.slice A d.n cp) ∧ w'.cell? ⟨w.heap.size, 1, none⟩ = some (.slice B m cq) ∧ w'.cell? ⟨w.heap.size, 2, none⟩ = some (.int .i64 d.lp) ∧ DC w [.slice A d.n cp, .slice B m cq, .int .i64 d.lp] w')
  ((go_split_ands; refine DC.all ?_; (repeat (first | (with_reducible assumption) | (with_reducible exact D0.out) | (with_reducible refine DC.drew ?_) | (with_reducible refine DC.below ?_ hb5)))))
  (first
    | (go_at_call 58
       refine Calls.mono (strands_any d HD.out A B cp cq m _ HM.out (HG.out.keep D0.out.drew.2)) ?_
       rintro e w1 ⟨A5, c5, rfl, hb5⟩
       rw [← HS.out]))
 have B1 := hide (D0.out.drew.below hb5).2
 clear hb5 c0 c1 c2
 go_wp2
 go_ret
 exact ⟨ret_int (by omega), B1.out⟩
end Go.Proofs.YtcaoblilkgajoaaDoor
end
section
namespace Go.Proofs.YtcaoblilkgajoaaDoor.Pl
variable {N : Nat} {f : Nat → Nat}
theorem gb_rep (n x : Nat) : gb (List.replicate n false) x = false := by
 unfold gb
 rw [List.getD_eq_getElem?_getD, List.getElem?_replicate]
 split <;> rfl
theorem mark_new {l : List Nat} {n k : Nat} (hl : l.length = n) (h1 : ∀ i, i < n → l.getD i 0 < n) (h2 : ∀ i j, i < n → j < n → l.getD i 0 = l.getD j 0 → i = j) (hk : k < n) : gb (mark (List.replicate n false) (l.take k)) (l.getD k 0) = false := by
 rw [← Bool.not_eq_true]
 intro e
 have at_ : ∀ x, x ∈ l.take k → ∃ i, i < k ∧ x = l.getD i 0 := fun x hx => by
  obtain ⟨i, hi, rfl⟩ := List.getElem_of_mem hx
  have hik : i < k := by rw [List.length_take] at hi; omega
  refine ⟨i, hik, ?_⟩
  rw [List.getElem_take, List.getD_eq_getElem?_getD, List.getElem?_eq_getElem (by omega)]
  rfl
 rcases (gb_mark (fun x hx => by
  obtain ⟨i, hi, rfl⟩ := at_ x hx
  rw [List.length_replicate]
  exact h1 i (by omega)) _).1 e with h | h
 ·rw [gb_rep] at h; cases h
 ·obtain ⟨i, hi, e⟩ := at_ _ h
  have := h2 k i hk (by omega) e
  omega
theorem Fcs.unseen {W : Nat → Prop} (hb : Bij N (fun i => i < N) f) {k : Nat} {fs : List (List Nat)} {bs : List Bool} (h : Fcs f W N k fs bs) {x y : Nat} (hx : x < N) (hn : gb bs x = false) (e : Orb f x y) : y < N ∧ gb bs y = false := by
 have hy : y < N := hb.orb_mem hx e
 refine ⟨hy, ?_⟩
 rw [← Bool.not_eq_true]
 intro c
 obtain ⟨l, h1, h2⟩ := (h.seen y hy).1 c
 obtain ⟨g, q, h3, h4, h5, rfl⟩ := h.is l h1
 have := (h.seen x hx).2 ⟨_, h1, (mem_cyc h5).2 (((mem_cyc h5).1 h2).trans (hb.symm hx e))⟩
 rw [hn] at this
 cases this
theorem Fcs.step_new {W : Nat → Prop} (hb : Bij N (fun i => i < N) f) {k p j : Nat} {fs : List (List Nat)} {bs : List Bool} (h : Fcs f W N k fs bs) (hk : k < N) (hn : gb bs k = false) (hp : Per f k p) (hj : j < p) : gb (mark bs (cyc f k j)) (it f j k) = false := by
 rw [← Bool.not_eq_true]
 intro e
 have at_ : ∀ x, x ∈ cyc f k j → ∃ i, i < j ∧ x = it f i k := fun x hx => by
  unfold cyc at hx
  obtain ⟨i, hi, rfl⟩ := List.mem_map.1 hx
  exact ⟨i, List.mem_range.1 hi, rfl⟩
 rcases (gb_mark (fun x hx => by
  obtain ⟨i, hi, rfl⟩ := at_ x hx
  rw [h.len]
  exact hb.it i k hk) _).1 e with c | c
 ·have := (h.unseen hb hk hn ⟨j, rfl⟩).2
  rw [c] at this
  cases this
 ·obtain ⟨i, hi, e⟩ := at_ _ c
  have h1 := it_add f i (j - i) k
  rw [show i + (j - i) = j by omega, e] at h1
  have := hb.it_inj i k (it f (j - i) k) hk (hb.it _ k hk) h1
  exact hp.2.2 (j - i) (by omega) (by omega) this.symm
theorem Fcs.step_end {W : Nat → Prop} (hb : Bij N (fun i => i < N) f) {k p : Nat} {fs : List (List Nat)} {bs : List Bool} (h : Fcs f W N k fs bs) (hk : k < N) (hp : Per f k p) : gb (mark bs (cyc f k p)) (it f p k) = true := by
 have at_ : ∀ x, x ∈ cyc f k p → x < bs.length := fun x hx => by
  unfold cyc at hx
  obtain ⟨i, hi, rfl⟩ := List.mem_map.1 hx
  rw [h.len]
  exact hb.it i k hk
 refine (gb_mark at_ _).2 (.inr ?_)
 rw [hp.2.1]
 exact (mem_cyc hp).2 (Orb.refl f k)
theorem Fcs.add_tl {W : Nat → Prop} (hb : Bij N (fun i => i < N) f) {k p : Nat} {fs : List (List Nat)} {bs : List Bool} (h : Fcs f W N k fs bs) (hk : k < N) (hn : gb bs k = false) (hp : Per f k p) (ht : tlF fs = cntB bs) : tlF (fs ++ [cyc f k p]) = cntB (mark bs (cyc f k p)) :=
 Fcs.tlF_add ht h.len hp (fun x hx => h.unseen hb hk hn ((mem_cyc hp).1 hx))
end Go.Proofs.YtcaoblilkgajoaaDoor.Pl
end
section
namespace Go.Proofs.YtcaoblilkgajoaaDoor
open Go Go.RowKit
attribute [local go_sem ↓] Go.wp_at_zero Go.wp_at_succ
set_option maxRecDepth 100000 in
set_option maxHeartbeats 2000000 in
theorem pvalid_yes (l : List Nat) (A : Option Addr) (n c : Nat) (w : World) (hw : IntsAt w A n (nats l)) (hn : n ≤ 1000) (h1 : ∀ i, i < n → l.getD i 0 < n) (h2 : ∀ i j, i < n → j < n → l.getD i 0 = l.getD j 0 → i = j) :
 Calls Tryd.prog 59 #[.slice A n c] w fun e w' => e = .returned (.bool true) ∧ Below w.heap.size w w' := by
 have hl : l.length = n := by have := hw.len; rwa [nats_len] at this
 have HW := hide hw
 have HL := hide hl
 have H1 := hide h1
 have HN := hide (show ∀ k, k < n → Pl.gb (Pl.mark (List.replicate n false) (l.take k)) (l.getD k 0) = false from fun k hk => Pl.mark_new hl h1 h2 hk)
 have hmk := fun W : World => run_bools n (by omega) W
 have H0 := hide (show BRow (w.alloc (.cells (Array.replicate n (Value.bool false)) 4)) w.heap.size (Pl.mark (List.replicate n false) (l.take 0)) from BRow.made w n)
 have B0 := hide (show Below w.heap.size w (w.alloc (.cells (Array.replicate n (Value.bool false)) 4)) from (Below.refl _ _).alloc (Nat.le_refl _) _)
 clear hw hl h1 h2
 go_enter Tryd.func59, Tryd.ntmps59
 go_wp2
 clear hmk
 go_loopg [5, 11] n (fun g s5 i wx => ∃ k : Nat, k + g = n ∧ i = .int .i64 (k : Int) ∧ BRow wx w.heap.size (Pl.mark (List.replicate n false) (l.take k)) ∧ Below w.heap.size w wx)
 case atStart => exact ⟨0, by omega, rfl, H0.out, B0.out⟩
 case round =>
  clear H0 B0
  obtain ⟨k, hkg, rfl, hb, hbl⟩ := hrel
  have HKG := hide hkg
  have HB := hide hb
  have HBL := hide hbl
  have hkn : k ≤ n := by omega
  clear hkg hb hbl
  by_cases hk : k < n
  ·have hki : (k : Int) < (n : Int) := by omega
   have k0 : (0 : Int) ≤ (k : Int) := by omega
   obtain ⟨b, o, rfl, hc⟩ := nats_at (HW.out.keep HBL.out) (k := k) hk
   have hy := H1.out k hk
   have hnew := HN.out k hk
   have HT := hide (show l.take (k + 1) = l.take k ++ [l.getD k 0] by
    have e : l[k]? = some (l.getD k 0) := by rw [List.getD_eq_getElem?_getD, List.getElem?_eq_getElem (by rw [HL.out]; exact hk)]; rfl
    exact Pl.take_one e)
   obtain ⟨y, hyy⟩ : ∃ y, y = l.getD k 0 := ⟨_, rfl⟩
   rw [← hyy] at hc hy hnew HT
   have c1 := HB.out.cell (i := y) (by rw [Pl.mark_len, List.length_replicate]; exact hy)
   unfold Pl.gb at hnew
   rw [hnew] at c1
   have f1 := Row.free HB.out y
   have y0 : (0 : Int) ≤ (y : Int) := by omega
   have y1 : (y : Int) < (n : Int) := by omega
   clear hyy hnew
   go_wp2
   go_roundg (gk - 1)
   case measure => have := HKG.out; omega
   case rel => exact ⟨k + 1, by have := HKG.out; omega, by go_num, by rw [HT.out, Pl.mark_append]; exact HB.out.set y true, HBL.out.setCell (Nat.le_refl _) _⟩
  ·have hki : ¬ ((k : Int) < (n : Int)) := by omega
   go_wp2
   go_ret
   exact ⟨rfl, HBL.out⟩
def LnV (vs : List Value) (fs : List (List Nat)) : Prop := ∀ (i : Nat) (l : List Nat), fs[i]? = some l → ∃ (A : Option Addr) (c : Nat), vs[i]? = some (Value.slice A l.length c)
theorem LnV.nil : LnV [] [] := fun i l h => by simp at h
theorem LnV.add {vs : List Value} {fs : List (List Nat)} (h : LnV vs fs) (hl : vs.length = fs.length) {l : List Nat} {A : Option Addr} {c m : Nat} (hm : m = l.length) : LnV (vs ++ [.slice A m c]) (fs ++ [l]) := by
 subst hm
 intro i k e
 rw [List.getElem?_append] at e
 by_cases hi : i < fs.length
 ·rw [if_pos hi] at e
  obtain ⟨B, d, h1⟩ := h i k e
  exact ⟨B, d, by rw [List.getElem?_append, if_pos (by rw [hl]; exact hi)]; exact h1⟩
 ·rw [if_neg hi] at e
  have hz : i - fs.length = 0 := by
   have := (List.getElem?_eq_some_iff.1 e).1
   simp only [List.length_singleton] at this
   omega
  rw [hz] at e
  injection e with e
  subst e
  exact ⟨A, c, by rw [List.getElem?_append, if_neg (by rw [hl]; exact hi), hl, hz]; rfl⟩
structure PcS (w : World) (w1 : World) (f : Nat → Nat) (N k : Nat) (fs : List (List Nat)) (bs : List Bool) (vs : List Value) (vA : Value) (W : World) : Prop where
 fc : Pl.Fcs f (fun _ => True) N k fs bs
 tl : Pl.tlF fs = Pl.cntB bs
 few : fs.length ≤ k
 seen : BRow W w1.heap.size bs
 own : W.ownsRow (w1.heap.size + 1) 22 1 vA fs.length vs
 ln : LnV vs fs
 bel : Below w.heap.size w W
 up : w.heap.size ≤ w1.heap.size
def PcyPost (f : Nat → Nat) (N : Nat) (w : World) (e : Ending) (w' : World) : Prop :=
 ∃ (A : Option Addr) (c : Nat) (fs : List (List Nat)) (bs : List Bool) (vs : List Value), e = .returned (.slice A fs.length c) ∧ Pl.Fcs f (fun _ => True) N N fs bs ∧ Pl.tlF fs = Pl.cntB bs ∧ fs.length ≤ N ∧ RowT w' 22 A fs.length vs ∧ LnV vs fs ∧ Below w.heap.size w w'
set_option maxRecDepth 100000 in
set_option maxHeartbeats 4000000 in
theorem pcycles_yes (f : Nat → Nat) (l : List Nat) (A : Option Addr) (n c : Nat) (w : World) (hw : IntsAt w A n (nats l)) (hn : n ≤ 1000) (hf : ∀ i, i < n → l.getD i 0 = f i) (hb : Pl.Bij n (fun i => i < n) f) :
 Calls Tryd.prog 32 #[.slice A n c] w (PcyPost f n w) := by
 have HW := hide hw
 have HF := hide hf
 have HBJ := hide hb
 have HM := hide (show ∀ i, i < n → l.getD i 0 < n from fun i hi => by rw [hf i hi]; exact hb.maps i hi)
 have HI := hide (show ∀ i j, i < n → j < n → l.getD i 0 = l.getD j 0 → i = j from fun i j hi hj e => by rw [hf i hi, hf j hj] at e; exact hb.inj i j hi hj e)
 clear hw hf hb
 go_enter Tryd.func32, Tryd.ntmps32
 go_wp2_with fail
 refine (pvalid_yes l A n c _ HW.out hn HM.out HI.out).mono ?_
 rintro e w1 ⟨rfl, hb1⟩
 have B1 := hide hb1
 clear hb1
 have hmk := fun W : World => run_bools n (by omega) W
 have H0 := hide (show PcS w w1 f n 0 [] (List.replicate n false) [] (.slice none 0 0) (w1.alloc (.cells (Array.replicate n (Value.bool false)) 4)) from
  ⟨Pl.Fcs.start f _ n, by
    show 0 = _
    unfold Pl.cntB
    rw [List.count_replicate]
    rfl, Nat.le_refl _, BRow.made w1 n, World.ownsRow_nil _ _ _ _, LnV.nil, B1.out.alloc B1.out.size _, B1.out.size⟩)
 go_wp2
 clear hmk
 go_loopg [3, 5, 6, 7, 16] n (fun g v s5 s6 s7 i wx => ∃ (k : Nat) (fs : List (List Nat)) (bs : List Bool) (vs : List Value), k + g = n ∧ i = .int .i64 (k : Int) ∧ PcS w w1 f n k fs bs vs v wx)
 case atStart => exact ⟨0, _, _, _, by omega, rfl, H0.out⟩
 case round =>
  clear H0
  obtain ⟨k, fs, bs, vs, hkg, rfl, hk⟩ := hrel
  have HKG := hide hkg
  have hkN : k ≤ n := by omega
  have HK := hide hk
  clear hkg hk
  obtain ⟨go, rfl⟩ : ∃ go, go = gk := ⟨_, rfl⟩
  obtain ⟨A3, c3, rfl⟩ := owns_slice HK.out.own
  by_cases hlt : k < n
  ·have hbl : k < bs.length := by rw [HK.out.fc.len]; exact hlt
   have hc := HK.out.seen.cell hbl
   have ik : (0 : Int) ≤ (k : Int) := by omega
   have jk : (k : Int) < (n : Int) := by omega
   cases hg : Pl.gb bs k with
   | true =>
     have HGB := hide hg
     have hc' : wr.cell? ⟨w1.heap.size, k, none⟩ = some (.bool true) := by rw [hc]; unfold Pl.gb at hg; rw [hg]
     clear hc hg
     go_wp2
     go_loopg [6, 7] 0 (fun g v i wx => v = .slice none 0 0 ∧ i = .int .i64 (k : Int) ∧ wx = wr)
     case atStart => exact ⟨rfl, rfl, rfl⟩
     case round =>
      obtain ⟨rfl, rfl, rfl⟩ := hrel
      go_wp2
      go_roundg (go - 1)
      case measure => have := HKG.out; omega
      case rel => exact ⟨k + 1, fs, bs, vs, by have := HKG.out; omega, by go_num, HK.out.fc.skip (.inl HGB.out), HK.out.tl, by have := HK.out.few; omega, HK.out.seen, HK.out.own, HK.out.ln, HK.out.bel, HK.out.up⟩
   | false =>
     have HGB := hide hg
     clear hc hg
     obtain ⟨p, hpN, hper⟩ := HBJ.out.per (show k < n from hlt)
     have HPER := hide hper
     clear hper
     have hbig : w1.heap.size + 1 ≤ wr.heap.size := by have := Row.lt HK.out.seen; omega
     have HOB := hide (show ∀ g, (Value.slice A3 fs.length c3).ownBlock = some g → g < wr.heap.size from fun g hg => (HK.out.own.lt g hg).2)
     have HS := hide (show BRow wr w1.heap.size (Pl.mark bs (Pl.cyc f k 0)) from HK.out.seen)
     have HFC := hide HK.out.fc
     have HTL := hide HK.out.tl
     have HLN := hide HK.out.ln
     have hfew := HK.out.few
     have hup1 := HK.out.up
     have HO0 := hide HK.out.own
     have HB0 := hide HK.out.bel
     obtain ⟨B, hB⟩ : ∃ B, B = wr.heap.size := ⟨_, rfl⟩
     rw [← hB] at hbig HOB
     clear HK
     go_wp2
     go_loopg [6, 7] p (fun g v i wx => ∃ j : Nat, j + g = p ∧ i = .int .i64 (Pl.it f j k : Nat) ∧ BRow wx w1.heap.size (Pl.mark bs (Pl.cyc f k j)) ∧ wx.ownsRow (w1.heap.size + 1) 22 1 (.slice A3 fs.length c3) fs.length vs ∧ wx.ownsRow B 3 1 v j ((Pl.cyc f k j).map (fun k : Nat => Value.int .i64 k)) ∧ Below w.heap.size w wx ∧ B ≤ wx.heap.size)
     case atStart => exact ⟨0, by omega, rfl, HS.out, HO0.out, World.ownsRow_nil _ _ _ _, HB0.out, by omega⟩
     case round =>
      clear HS
      obtain ⟨j, hjg, rfl, hS, hO, hC, hbel, hup⟩ := hrel
      have HJG := hide hjg
      have hjp : j ≤ p := by omega
      have HS := hide hS
      have HO := hide hO
      have HC := hide hC
      have HBL := hide hbel
      clear hjg hS hO hC hbel
      obtain ⟨A6, c6, rfl⟩ := owns_slice HC.out
      have hxn : Pl.it f j k < n := HBJ.out.it j k hlt
      by_cases hj : j < p
      ·have hnew := HFC.out.step_new HBJ.out hlt HGB.out HPER.out hj
       have HFX := hide (show Pl.it f (j + 1) k = l.getD (Pl.it f j k) 0 from (HF.out _ hxn).symm)
       have HCY := hide (Pl.cyc_succ f k j)
       obtain ⟨x, hx⟩ : ∃ x, x = Pl.it f j k := ⟨_, rfl⟩
       rw [← hx] at hxn hnew HFX HCY ⊢
       clear hx
       have c1 := HS.out.cell (i := x) (by rw [Pl.mark_len, HFC.out.len]; exact hxn)
       unfold Pl.gb at hnew
       rw [hnew] at c1
       have f1 := Row.free HS.out x
       have x0 : (0 : Int) ≤ (x : Int) := by omega
       have x1 : (x : Int) < (n : Int) := by omega
       obtain ⟨b, o, rfl, hcx⟩ := nats_at HW.out (k := x) hxn
       have hsz := Row.lt HS.out
       have S2 := hide (HS.out.set x true)
       have O2 := hide (ownsRow_setCell_below HO.out (a := ⟨w1.heap.size, x, none⟩) (by show w1.heap.size < w1.heap.size + 1; omega) (.bool true))
       have C2 := hide (ownsRow_setCell_below HC.out (a := ⟨w1.heap.size, x, none⟩) (by show w1.heap.size < B; omega) (.bool true))
       have B2 := hide (HBL.out.setCell (p := ⟨w1.heap.size, x, none⟩) hup1 (.bool true))
       have z2 : (wr.setCell ⟨w1.heap.size, x, none⟩ (.bool true)).heap.size = wr.heap.size := by simp
       have Z2 := hide z2
       clear z2 hnew
       go_upto_region 13 with fail
       obtain ⟨w2, hw2⟩ : ∃ W, W = wr.setCell ⟨w1.heap.size, x, none⟩ (.bool true) := ⟨_, rfl⟩
       rw [← hw2] at S2 O2 C2 B2 Z2 ⊢
       clear hw2 c1 f1 HS HO HC
       have hw2z : B ≤ w2.heap.size := by have := Z2.out; omega
       have hw2y := Row.lt S2.out
       obtain ⟨i0, hi0, hz0, hz1, hz2⟩ := info_parts intInfo
       go_wp2_with (at_builtin; refine wpList_append_lies _ (by rfl) _ _ 22 (by rfl) B 3 i0 (.int .i64 0) 1 8 Tryd.underlying22 hi0 hz0 hz1 hz2 rfl (by omega) _ j _ (by rfl) (C2.out.alloc _) ⟨w2.heap.size, 0, none⟩ 1 1 [.int .i64 (x : Int)] (by rfl) (by rfl) (one_news _ _) (by simp [Value.oneCell']) (by omega) (by unfold maxLen; omega) (by omega) (by simp; omega) (w2.heap.size + 1) (by simp) ?_; intro g3 c3' w3 own3 grow3 at3 lt3; have OWN3 := hide own3; have GR3 := hide grow3; have B3 := hide ((B2.out.alloc B2.out.size (.cells #[.int .i64 (x : Int)] 3)).grown GR3.out (by have := B2.out.size; simp; omega) (fun q hq => by have := (C2.out.lt q hq).1; omega)); have hcx3 := cell_below hcx B3.out; clear own3 grow3 at3)
       go_roundg (gk - 1)
       case measure => have := HJG.out; omega
       case rel =>
        refine ⟨j + 1, by have := HJG.out; omega, by rw [HFX.out, List.getD_eq_getElem?_getD], ?_, ?_, ?_, B3.out, ?_⟩
        ·rw [HCY.out, Pl.mark_append]
         refine Row.grown (Row.alloc S2.out (.cells #[.int .i64 (x : Int)] 3)) GR3.out ?_
         intro e
         obtain ⟨cs, fr, h3⟩ := ownsRow_block (C2.out.alloc (.cells #[.int .i64 (x : Int)] 3)) _ e.symm
         have h4 := Row.alloc S2.out (.cells #[.int .i64 (x : Int)] 3)
         rw [h4] at h3
         injection h3 with h3
         injection h3 with _ h5
         exact absurd h5 (by decide)
        ·refine (O2.out.alloc (.cells #[.int .i64 (x : Int)] 3)).kept GR3.out ?_
         cases hm : (Value.slice A3 fs.length c3).ownBlock with
         | none => exact .inl rfl
         | some g =>
           refine .inr (fun e => ?_)
           have h1 := HOB.out g hm
           have h2 := (C2.out.lt g e.symm).1
           omega
        ·rw [HCY.out, List.map_append]
         exact OWN3.out
        ·have := GR3.out.size
         simp at this
         omega
      ·obtain rfl : j = p := by omega
       have hend := HFC.out.step_end HBJ.out hlt HPER.out
       have hp0 := HPER.out.1
       obtain ⟨x, hx⟩ : ∃ x, x = Pl.it f j k := ⟨_, rfl⟩
       rw [← hx] at hxn hend ⊢
       clear hx
       have c1 := HS.out.cell (i := x) (by rw [Pl.mark_len, HFC.out.len]; exact hxn)
       unfold Pl.gb at hend
       rw [hend] at c1
       have x0 : (0 : Int) ≤ (x : Int) := by omega
       have x1 : (x : Int) < (n : Int) := by omega
       have hp1 : (0 : Int) < (j : Int) := by omega
       have hsz := Row.lt HS.out
       clear hend
       obtain ⟨i0, hi0, hz0, hz1, hz2⟩ := info_parts rowInfo
       have P1 : ∀ u ∈ [Value.slice A6 j c6], u.oneCell' = true := by simp [Value.oneCell']
       go_wp2_with (at_builtin; refine wpList_append_lies _ (by rfl) _ _ 52 (by rfl) (w1.heap.size + 1) 22 i0 (.slice none 0 0) 1 24 Tryd.underlying52 hi0 hz0 hz1 hz2 rfl (by omega) _ fs.length vs (by rfl) (HO.out.alloc _) ⟨wr.heap.size, 0, none⟩ 1 1 [.slice A6 j c6] (by rfl) (by rfl) (World.news_of_block (cs := #[.slice A6 j c6]) (t := 22) (fr := (0, 0)) (heap_alloc_new wr _)) P1 (by omega) (by unfold maxLen; omega) (by omega) (by simp; omega) (wr.heap.size + 1) (by simp) ?_; intro g3 c3' w3 own3 grow3 at3 lt3; have OWN3 := hide own3; have GR3 := hide grow3; clear own3 grow3 at3)
       go_roundg (go - 1)
       case measure => have := HKG.out; omega
       case rel =>
        refine ⟨k + 1, fs ++ [Pl.cyc f k j], Pl.mark bs (Pl.cyc f k j), vs ++ [.slice A6 j c6], by have := HKG.out; omega, by go_num, ?_⟩
        refine ⟨HFC.out.add HBJ.out (fun x hx => hx) (fun x hx => hx) hlt trivial HGB.out HPER.out, HFC.out.add_tl HBJ.out hlt HGB.out HPER.out HTL.out, by simp; omega, ?_, by simpa using OWN3.out, HLN.out.add (by have := HO.out.1; simpa using this) (by rw [Pl.cyc_len]), ?_, hup1⟩
        ·refine Row.grown (Row.alloc HS.out (.cells #[.slice A6 j c6] 22)) GR3.out ?_
         intro e
         obtain ⟨cs, fr, h3⟩ := ownsRow_block (HO.out.alloc (.cells #[.slice A6 j c6] 22)) _ e.symm
         have h4 := Row.alloc HS.out (.cells #[.slice A6 j c6] 22)
         rw [h4] at h3
         injection h3 with h3
         injection h3 with _ h5
         exact absurd h5 (by decide)
        ·exact (HBL.out.alloc HBL.out.size _).grown GR3.out (by have := HBL.out.size; simp; omega) (fun q hq => by have := (HO.out.lt q hq).1; omega)
  ·have hki : ¬ ((k : Int) < (n : Int)) := by omega
   go_wp2
   go_ret
   obtain rfl : k = n := by omega
   exact ⟨A3, c3, fs, bs, vs, rfl, HK.out.fc, HK.out.tl, HK.out.few, own_rowT HK.out.own, HK.out.ln, HK.out.bel⟩
end Go.Proofs.YtcaoblilkgajoaaDoor
end
section
namespace Go.Proofs.YtcaoblilkgajoaaDoor
open Go Go.RowKit
attribute [local go_sem ↓] Go.wp_at_zero Go.wp_at_succ
structure LB (w : World) (L : List (Nat × List Value)) (T : List (Option Addr × Nat × List Int)) (W : World) : Prop where
 rows : ∀ p, p ∈ L → Row W p.1 24 p.2
 ints : ∀ q, q ∈ T → IntsAt W q.1 q.2.1 q.2.2
 bel : Below w.heap.size w W
section
variable {w W W' : World} {L : List (Nat × List Value)} {T : List (Option Addr × Nat × List Int)}
end
theorem LB.start (w : World) (a b c d e f : Value) (T : List (Option Addr × Nat × List Int)) (hT : ∀ q, q ∈ T → IntsAt w q.1 q.2.1 q.2.2) :
 LB w [(w.heap.size, [a, b]), (w.heap.size + 1, [c, d]), (w.heap.size + 1 + 1, [e, f])] T (((w.alloc (.cells #[a, b] 24)).alloc (.cells #[c, d] 24)).alloc (.cells #[e, f] 24)) := by
 have hb : Below w.heap.size w (((w.alloc (.cells #[a, b] 24)).alloc (.cells #[c, d] 24)).alloc (.cells #[e, f] 24)) := (((Below.refl _ _).alloc (Nat.le_refl _) _).alloc (by simp) _).alloc (by simp; omega) _
 have h0 := row_at (W := w) (g := w.heap.size) (t := 24) (vs := [a, b]) rfl
 have h1 := row_at (W := w.alloc (.cells #[a, b] 24)) (g := w.heap.size + 1) (t := 24) (vs := [c, d]) (by simp)
 have h2 := row_at (W := (w.alloc (.cells #[a, b] 24)).alloc (.cells #[c, d] 24)) (g := w.heap.size + 1 + 1) (t := 24) (vs := [e, f]) (by simp)
 refine ⟨fun p hp => ?_, fun q hq => (hT q hq).keep hb, hb⟩
 simp only [List.mem_cons, List.not_mem_nil, or_false] at hp
 rcases hp with rfl | rfl | rfl
 ·exact (h0.alloc _).alloc _
 ·exact h1.alloc _
 ·exact h2
theorem exponent_yes {s : Int} {xs : List Int} (hv : Pl.BV s xs) (A : Option Addr) (n c : Nat) (w : World) (hx : IntsAt w A n xs) (hn : n ≤ maxLen) :
 Calls Tryd.prog 26 #[.agg #[.int .i64 s, .slice A n c]] w fun e w' => e = .returned (.int .i64 (Pl.exW xs)) ∧ Below w.heap.size w w' :=
 (exponent_any s xs A n c w hx hn).mono fun e w' ⟨_, h, hb⟩ => ⟨h hv, hb⟩
theorem perm_yes {q : Nat} {xs : List Int} (hv : Pl.BV (q : Int) xs) (A : Option Addr) (n c : Nat) (w : World) (hx : IntsAt w A n xs) (hn : n ≤ maxLen) :
 Calls Tryd.prog 23 #[.agg #[.int .i64 (q : Int), .slice A n c]] w fun e w' => ∃ (B : Option Addr), e = .returned (.slice B q q) ∧ IntsAt w' B q (nats (Pl.pmR q xs)) ∧ Below w.heap.size w w' := by
 refine (perm_any (q : Int) xs A n c w hx hn).mono ?_
 rintro e w' ⟨_, h, hb⟩
 obtain ⟨g, _, he, hr⟩ := h hv
 rw [Int.toNat_natCast] at he hr
 have hi := hr.ints
 rw [nats_len, Pl.pmR_len] at hi
 exact ⟨_, he, hi, hb⟩
structure KB (W0 W : World) : Prop where
 bel : Below W0.heap.size W0 W
section
variable {W0 W W' w : World} {L : List (Nat × List Value)} {T : List (Option Addr × Nat × List Int)}
end
theorem exponent_is {s ea : Int} {xs : List Int} (he : Pl.exW xs = ea) (hv : Pl.BV s xs) (A : Option Addr) (n c : Nat) (w : World) (hx : IntsAt w A n xs) (hn : n ≤ maxLen) :
 Calls Tryd.prog 26 #[.agg #[.int .i64 s, .slice A n c]] w fun e w' => e = .returned (.int .i64 ea) ∧ Below w.heap.size w w' := by
 subst he
 exact exponent_yes hv A n c w hx hn
end Go.Proofs.YtcaoblilkgajoaaDoor
end
section
namespace Go.Proofs.YtcaoblilkgajoaaDoor
open Go Go.RowKit
attribute [local go_sem ↓] Go.wp_at_zero Go.wp_at_succ
theorem valid_w (d : Pl.Dg) (hd : Pl.Valid d) (A B : Option Addr) (n cp cq m lp : Nat) (w : World) (hn : n = d.n) (hl : lp = d.lp) (hm : m = 4 * d.n) (hg : DgAt w A B d) :
 Calls Tryd.prog 30 #[.agg #[.slice A n cp, .slice B m cq, .int .i64 (lp : Int)]] w fun e w' => e = .returned (.bool true) ∧ Below w.heap.size w w' := by
 subst hn hl
 exact valid_yes d hd A B cp cq m w hm hg
theorem comps_w (d : Pl.Dg) (hd : Pl.Valid d) (A B : Option Addr) (n cp cq m lp K : Nat) (w : World) (hn : n = d.n) (hl : lp = d.lp) (hm : m = 4 * d.n) (hK : K = strN d + d.lp) (hg : DgAt w A B d) :
 Calls Tryd.prog 31 #[.agg #[.slice A n cp, .slice B m cq, .int .i64 (lp : Int)]] w (fun e w' => e = .returned (.int .i64 (K : Int)) ∧ Below w.heap.size w w') := by
 subst hn hl hK
 exact comps_any d hd A B cp cq m w hm hg
theorem pcycles_len {q : Nat} {ws : List Int} (hv : Pl.BV (q : Int) ws) {K : Nat} (hK : Pl.Cls (fun i => i < q) (Pl.Orb (fun i => Pl.trk i ws)) K) (A : Option Addr) (c : Nat) (w : World) (hw : IntsAt w A q (nats (Pl.pmR q ws))) :
 Calls Tryd.prog 32 #[.slice A q c] w fun e w' => ∃ (B : Option Addr) (d : Nat), e = .returned (.slice B K d) ∧ Below w.heap.size w w' := by
 have hok := hv.ok
 rw [Int.toNat_natCast] at hok
 have hb := Pl.trk_bij q ws hok
 refine (pcycles_yes (fun i => Pl.trk i ws) _ A q c w hw (by have := hv.2.1; omega) (fun i hi => Pl.pmR_get ws hi) hb).mono ?_
 rintro e w' ⟨B, d, fs, bs, vs, rfl, hfc, _, _, _, _, hb'⟩
 have := (hfc.clsN hb (fun x hx => trivial)).unique hK
 exact ⟨B, d, by rw [this], hb'⟩
theorem clSg_get {ws : List Int} {k : Nat} (hk : k < ws.length) : (Pl.clSg ws).getD k 0 = if ws.getD k 0 < 0 then -1 else 1 := by
 unfold Pl.clSg
 rw [List.getD_eq_getElem?_getD, List.getElem?_map, List.getD_eq_getElem?_getD, List.getElem?_eq_getElem hk]
 rfl
set_option maxRecDepth 100000 in
set_option maxHeartbeats 8000000 in
theorem braidComponents_walk (s : Int) (ws : List Int) (A : Option Addr) (n c : Nat) (w : World) (hw : IntsAt w A n ws) (hn : n ≤ maxLen) (hg : GV w) (hw0 : 0 < w.heap.size) :
 Calls Tryd.prog 8 #[.agg #[.int .i64 s, .slice A n c]] w fun e w' => e = .returned (.bool true) ∧ Below w.heap.size w w' := by
 have HG := hide hg
 have HW := hide hw
 have HN := hide hn
 have HL := hide hw.len
 unfold maxLen at hn
 clear hg hw
 have X0 := hide (row_at (W := w) (g := w.heap.size) (t := 24) (vs := [.int .i64 s, .slice A n c]) rfl)
 have B0 := hide (show Below w.heap.size w (w.alloc (.cells #[.int .i64 s, .slice A n c] 24)) from (Below.refl _ _).alloc (Nat.le_refl _) _)
 have S0 := hide (show 0 < (w.alloc (.cells #[.int .i64 s, .slice A n c] 24)).heap.size by simp)
 go_enter Tryd.func8, Tryd.ntmps8
 go_wp2_with fail
 refine (awake33 _ (HG.out.below B0.out) S0.out).mono ?_
 rintro e w1 ⟨rfl, hb1⟩
 have B1 := hide (B0.out.trans (hb1.mono B0.out.size))
 have X1 := hide (X0.out.below hb1)
 clear hb1 X0 B0 S0
 obtain ⟨d0, d1, d2⟩ := box2b X1.out
 go_wp2_with fail
 refine (great33 s A n c _ HN.out).mono ?_
 rintro e w2 ⟨rfl, hb2⟩
 have B2 := hide (B1.out.trans (hb2.mono B1.out.size))
 have X2 := hide (X1.out.below hb2)
 clear hb2 X1 B1 d0 d1 d2
 obtain ⟨d0, d1, d2⟩ := box2b X2.out
 by_cases h30 : 30 < n
 ·rw [show decide (30 < n) = true by simp [h30]]
  go_wp2
  go_ret
  exact ⟨rfl, B2.out⟩
 ·rw [show decide (30 < n) = false by simp [h30]]
  have hn30 : n ≤ 30 := by omega
  clear hn h30
  go_wp2_with fail
  refine (bvalid_any s ws A n c _ (HW.out.keep B2.out) HN.out).mono ?_
  rintro e w3 ⟨rfl, hb3⟩
  have B3 := hide (B2.out.trans (hb3.mono B2.out.size))
  have X3 := hide (X2.out.below hb3)
  clear hb3 X2 B2 d0 d1 d2
  obtain ⟨d0, d1, d2⟩ := box2b X3.out
  by_cases hv : Pl.BV s ws
  ·rw [Pl.vb_true hv]
   obtain ⟨q, rfl⟩ : ∃ q : Nat, s = (q : Int) := ⟨s.toNat, by have := hv.1; omega⟩
   have HV := hide hv
   have hq10 : q ≤ 10 := by have := hv.2.1; omega
   clear hv
   go_wp2_with fail
   refine (closure_any (q : Int) ws A n c _ (HW.out.keep B3.out) (by omega)).mono ?_
   rintro e w4 ⟨_, hp2, hb4⟩
   have hok : Pl.WOk q ws := by have := HV.out.wok; rwa [Int.toNat_natCast] at this
   obtain ⟨S, M, c3, he, hD⟩ := hp2 HV.out
   rw [Int.toNat_natCast, HL.out] at he
   rw [Int.toNat_natCast] at hD
   obtain ⟨dg, hdg⟩ : ∃ dg, dg = Pl.clD q ws := ⟨_, rfl⟩
   have hnn : n = dg.n := by rw [hdg, Pl.clD_n]; exact HL.out.symm
   obtain ⟨lp, hlp⟩ : ∃ lp, lp = dg.lp := ⟨_, rfl⟩
   obtain ⟨m, hm⟩ : ∃ m, m = 4 * n := ⟨_, rfl⟩
   rw [← hdg, ← hlp, ← hm] at he
   rw [← hdg] at hD
   subst he
   have hlp10 : dg.lp ≤ 64 := by
    have h1 : dg.lp = Pl.rcL ws q := by rw [hdg]; exact Pl.clD_lp hok
    have h2 : ∀ k, Pl.rcL ws k ≤ k := by
     intro k
     induction k with
     | zero => exact Nat.le_refl _
     | succ k ih =>
       show Pl.rcL ws k + (if Pl.nxW ws 0 k < 0 then 1 else 0) ≤ k + 1
       split <;> omega
    have := h2 q
    omega
   have hval : Pl.Valid dg := by
    rw [hdg]
    exact Pl.clD_valid hok (by rw [HL.out]; omega) (by rw [← hdg]; exact hlp10)
   have HVD := hide hval
   have HNN := hide hnn
   have HLP := hide hlp
   have HM := hide (show m = 4 * dg.n by rw [← hnn]; exact hm)
   have HD := hide hD
   have HK := hide (show Pl.Cls (fun i => i < q) (Pl.Orb (fun i => Pl.trk i ws)) (strN dg + dg.lp) by
    have h1 := strN_str dg hval.wf
    rw [hdg] at h1 ⊢
    exact Pl.clD_comps hok (by rw [← hdg]; exact hval.wf) h1)
   have HSG := hide (show ∀ k, k < n → dg.sg.getD k 0 = if ws.getD k 0 < 0 then -1 else 1 from fun k hk => by
    rw [hdg]
    exact clSg_get (by rw [HL.out]; exact hk))
   have B4 := hide (B3.out.trans (hb4.mono B3.out.size))
   have X4 := hide ((X3.out.below hb4).alloc (.cells #[.slice S n c3, .slice M m m, .int .i64 (lp : Int)] 28))
   have Y4 := hide (row_at (W := w4) (g := w4.heap.size) (t := 28) (vs := [.slice S n c3, .slice M m m, .int .i64 (lp : Int)]) rfl)
   have D4 := hide (HD.out.keep ((Below.refl _ _).alloc (Nat.le_refl _) (.cells #[.slice S n c3, .slice M m m, .int .i64 (lp : Int)] 28)))
   have B5 := hide (B4.out.alloc B4.out.size (.cells #[.slice S n c3, .slice M m m, .int .i64 (lp : Int)] 28))
   clear hp2 hb4 hok hdg hnn hlp hm hD hlp10 hval HD B4 B3 X3 d0 d1 d2
   obtain ⟨d0, d1, d2⟩ := box2b X4.out
   obtain ⟨e0, e1, e2, e3⟩ := box3 Y4.out
   go_wp2_with fail
   obtain ⟨w5, hw5⟩ : ∃ W, W = w4.alloc (.cells #[.slice S n c3, .slice M m m, .int .i64 (lp : Int)] 28) := ⟨_, rfl⟩
   rw [← hw5] at X4 Y4 D4 B5 d0 d1 d2 e0 e1 e2 e3
   rw [← hw5]
   clear hw5
   have HS := hide (show IntsAt w5 S n dg.sg by have := D4.out.s; rwa [← HNN.out] at this)
   go_loopg [5, 7, 25] n (fun g s5 s7 i wx => ∃ k : Nat, k + g = n ∧ i = .int .i64 (k : Int) ∧ s5 = .int .i64 (Pl.exW (ws.take k)) ∧ wx = w5)
   case atStart => exact ⟨0, by omega, rfl, rfl, rfl⟩
   case round =>
    obtain ⟨k, hkg, rfl, rfl, rfl⟩ := hrel
    have HKG := hide hkg
    have hkn : k ≤ n := by omega
    clear hkg
    by_cases hk : k < n
    ·have hki : (k : Int) < (n : Int) := by omega
     have k0 : (0 : Int) ≤ (k : Int) := by omega
     obtain ⟨b, o, rfl, cs⟩ := HS.out.at_ hk
     obtain ⟨x, hxm, hx, hxt⟩ := letter_at HL.out hk
     have hx0 := (HV.out.2.2.2 x hxm).1
     rw [HSG.out k hk, hx] at cs
     have HXT := hide (show Pl.exW (ws.take (k + 1)) = Pl.ex1 (Pl.exW (ws.take k)) x by rw [hxt, Pl.exW_snoc])
     obtain ⟨a, ha⟩ : ∃ a, a = Pl.exW (ws.take k) := ⟨_, rfl⟩
     have hab : -30 ≤ a ∧ a ≤ 30 := by
      have := Pl.exW_abs (ws.take k)
      rw [List.length_take] at this
      rw [ha]
      omega
     obtain ⟨ha1, ha2⟩ := hab
     rw [← ha] at HXT ⊢
     clear hx hxt ha hxm
     by_cases h0 : x < 0
     ·rw [if_pos h0] at cs
      have HE := hide (show Pl.ex1 a x = a - 1 by unfold Pl.ex1; rw [if_neg (by omega)])
      clear h0 hx0
      go_wp2
      go_roundg (gk - 1)
      case measure => have := HKG.out; omega
      case rel => exact ⟨k + 1, by have := HKG.out; omega, by go_num, by rw [HXT.out, HE.out]; congr 1, rfl⟩
     ·rw [if_neg h0] at cs
      have HE := hide (show Pl.ex1 a x = a + 1 by unfold Pl.ex1; rw [if_pos (by omega)])
      clear h0 hx0
      go_wp2
      go_roundg (gk - 1)
      case measure => have := HKG.out; omega
      case rel => exact ⟨k + 1, by have := HKG.out; omega, by go_num, by rw [HXT.out, HE.out], rfl⟩
    ·have hki : ¬ ((k : Int) < (n : Int)) := by omega
     obtain ⟨ex, hex⟩ : ∃ e, e = Pl.exW ws := ⟨_, rfl⟩
     rw [show Pl.exW (ws.take k) = ex by rw [List.take_of_length_le (by rw [HL.out]; omega)]; exact hex.symm]
     have HEX := hide hex.symm
     obtain ⟨K, hK⟩ : ∃ K, K = strN dg + dg.lp := ⟨_, rfl⟩
     have HKK := hide hK
     have HKC := hide (show Pl.Cls (fun i => i < q) (Pl.Orb (fun i => Pl.trk i ws)) K by rw [hK]; exact HK.out)
     have T0 := hide (Below.refl wr.heap.size wr).drew
     have HWW := hide (HW.out.keep B5.out)
     clear hex hK hk
     go_upto_region 12 with fail
     go_region_held3 (fun w' => w'.cell? ⟨w.heap.size, 0, none⟩ = some (.int .i64 (q : Int)) ∧ w'.cell? ⟨w.heap.size, 1, none⟩ = some (.slice A n c) ∧ w'.cell? ⟨w4.heap.size, 0, none⟩ = some (.slice S n c3) ∧ w'.cell? ⟨w4.heap.size, 1, none⟩ = some (.slice M m m) ∧ w'.cell? ⟨w4.heap.size, 2, none⟩ = some (.int .i64 (lp : Int)))
      (first | go_keep | assumption | (exact ⟨d0, d1, e0, e1, e2⟩))
      (first
      | (go_at_call 26
         have hx := T4
         refine Calls.mono (exponent_is HEX.out HV.out A n c _ (HWW.out.keep T4.out) HN.out) ?_
         rintro e w10 ⟨rfl, hb10⟩
         have T5 := hide (T4.out.trans (hb10.mono T4.out.size))
         obtain ⟨d0, d1, d2⟩ := box2b (X4.out.below T5.out)
         obtain ⟨e0, e1, e2, e3⟩ := box3 (Y4.out.below T5.out))
      | (go_at_call 32
         have hx := T3
         refine Calls.mono (pcycles_len HV.out HKC.out P q _ HP.out) ?_
         rintro e w9 ⟨A9, c9, rfl, hb9⟩
         have T4 := hide (T3.out.trans (hb9.mono T3.out.size))
         obtain ⟨d0, d1, d2⟩ := box2b (X4.out.below T4.out)
         obtain ⟨e0, e1, e2, e3⟩ := box3 (Y4.out.below T4.out))
      | (go_at_call 23
         have hx := T2
         refine Calls.mono (perm_yes HV.out A n c _ (HWW.out.keep T2.out) HN.out) ?_
         rintro e w8 ⟨P, rfl, hP, hb8⟩
         have HP := hide hP
         have T3 := hide (T2.out.trans (hb8.mono T2.out.size))
         obtain ⟨d0, d1, d2⟩ := box2b (X4.out.below T3.out)
         obtain ⟨e0, e1, e2, e3⟩ := box3 (Y4.out.below T3.out))
      | (go_at_call 31
         have hx := T1
         refine Calls.mono (comps_w dg HVD.out S M n c3 m m lp K _ HNN.out HLP.out HM.out HKK.out (D4.out.keep T1.out)) ?_
         rintro e w7 ⟨rfl, hb7⟩
         have T2 := hide (T1.out.trans (hb7.mono T1.out.size))
         obtain ⟨d0, d1, d2⟩ := box2b (X4.out.below T2.out)
         obtain ⟨e0, e1, e2, e3⟩ := box3 (Y4.out.below T2.out))
      | (go_at_call 30
         refine Calls.mono (valid_w dg HVD.out S M n c3 m m lp _ HNN.out HLP.out HM.out (D4.out.keep T0.out)) ?_
         rintro e w6 ⟨rfl, hb6⟩
         have T1 := hide (T0.out.trans (hb6.mono T0.out.size))
         obtain ⟨d0, d1, d2⟩ := box2b (X4.out.below T1.out)
         obtain ⟨e0, e1, e2, e3⟩ := box3 (Y4.out.below T1.out)))
     all_goals (go_wp2_with fail)
     all_goals (go_ret; exact ⟨by simp, B5.out.trans (T5.out.mono B5.out.size)⟩)
  ·rw [Pl.vb_false hv]
   go_wp2
   go_ret
   exact ⟨rfl, B3.out⟩
end Go.Proofs.YtcaoblilkgajoaaDoor
end
