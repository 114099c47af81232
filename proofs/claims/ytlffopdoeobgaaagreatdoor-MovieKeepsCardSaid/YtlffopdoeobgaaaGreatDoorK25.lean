/-
 The texts Nk, Nl, Nm, Nr in one.
-/
import Derived.Test.YtlffopdoeobgaaaGreatDoorK24
import Derived.Test.YtlffopdoeobgaaaGreatDoorK23
import Derived.Deep.RegionHeld3
import Derived.Test.YtlffopdoeobgaaaGreatDoorK20
import Derived.Test.YtlffopdoeobgaaaGreatDoorK15
import Derived.Test.YtlffopdoeobgaaaGreatDoorK16
import Derived.Test.YtlffopdoeobgaaaGreatDoorK11
set_option linter.unusedVariables false
set_option linter.unusedSimpArgs false
section
namespace Go.Proofs.YtlffopdoeobgaaaGreatDoor
open Go Go.RowKit
attribute [local go_sem ↓] Go.wp_at_zero Go.wp_at_succ
theorem stepInfo : (Tryz.prog.info? 58).map (fun i => (i.zero, i.size, i.bytes)) = some (some (.agg #[.int .i64 0, .int .i64 0, .int .i64 0, .int .i64 0, .bool false, .int .i64 0, .int .i64 0, .int .i64 0, .int .i64 0, .bool false, .int .i64 0]), 11, 88) := by kernel_rfl
theorem run_steps0 (n : Nat) (hn : n ≤ 1000000) (w : World) : (Instr.makeSlice 56 (.int .i64 0) (.int .i64 (n : Int))).run Tryz.prog w = .ok (.slice (some ⟨w.heap.size, 0, none⟩) 0 n) (w.alloc (.cells (madeCells (Value.cells (.agg #[.int .i64 0, .int .i64 0, .int .i64 0, .int .i64 0, .bool false, .int .i64 0, .int .i64 0, .int .i64 0, .int .i64 0, .bool false, .int .i64 0])) (n * 11)) 58)) := by
 obtain ⟨i0, hi, hz0, hz1, hz2⟩ := info_parts stepInfo
 have := run_make (P := Tryz.prog) w 56 58 i0 _ Tryz.underlying56 hi hz0 .i64 .i64 0 n (Int.le_refl _) (by omega) (by rw [hz2]; omega) (by omega)
 rw [hz1, Int.toNat_natCast] at this
 exact this
def stps (ss : List Stp) : List Value := ss.flatMap Stp.cells
theorem stps_snoc (ss : List Stp) (s : Stp) : stps (ss ++ [s]) = stps ss ++ s.cells := by unfold stps; simp
theorem stps_len : ∀ ss : List Stp, (stps ss).length = ss.length * 11
 | [] => rfl
 | s :: ss => by
   have := stps_len ss
   unfold stps at this ⊢
   rw [List.flatMap_cons, List.length_append, this, List.length_cons]
   simp [Stp.cells, Mv.cells]
   omega
theorem stps_get : ∀ (ss : List Stp) (j : Nat) (z : Stp), ss[j]? = some z → ∀ (i : Nat) (u : Value), z.cells[i]? = some u → (stps ss)[j * 11 + i]? = some u
 | [], j, z, h, _, _, _ => by cases h
 | s :: ss, 0, z, h, i, u, hu => by
   obtain rfl : s = z := by simpa using h
   have hi := (List.getElem?_eq_some_iff.1 hu).1
   unfold stps
   rw [List.flatMap_cons, Nat.zero_mul, Nat.zero_add, List.getElem?_append_left hi]
   exact hu
 | s :: ss, j + 1, z, h, i, u, hu => by
   have := stps_get ss j z (by simpa using h) i u hu
   unfold stps at this ⊢
   have hl : s.cells.length = 11 := by simp [Stp.cells, Mv.cells]
   rw [List.flatMap_cons, List.getElem?_append_right (by rw [hl]; omega), hl, show (j + 1) * 11 + i - 11 = j * 11 + i by omega]
   exact this
theorem st_own {w : World} {base n c : Nat} {A : Option Addr} {ss : List Stp} (h : w.ownsRow base 58 11 (.slice A n c) n (stps ss)) (hl : ss.length = n) : StV w A n ss := by
 refine ⟨hl.symm, fun hp => ?_⟩
 obtain ⟨g, cap, hA, _, _⟩ := World.ownsRow.form h hp
 injection hA with hA _ _
 subst hA
 refine ⟨g, rfl, fun j z hz i u hu => ?_⟩
 have hg := stps_get ss j z hz i u hu
 have hi := (List.getElem?_eq_some_iff.1 hg).1
 rw [stps_len, hl] at hi
 rw [World.ownsRow.cellAt h _ hi]
 exact hg
theorem own_lower {w : World} {base base' : Nat} {e : TypeId} {size : Nat} {v : Value} {n : Nat} {xs : List Value} (h : w.ownsRow base e size v n xs) (hb : base' ≤ base) : w.ownsRow base' e size v n xs :=
 ⟨h.1, h.2.imp id (fun ⟨g, cap, cur, a, b, r⟩ => ⟨g, cap, cur, a, Nat.le_trans hb b, r⟩)⟩
structure PY (w : World) (ga : Nat) (d : Pl.Dg) (ms : List Mv) (k : Nat) (r : Pl.Dg) (ss : List Stp) (v : Value) (A9 B9 : Option Addr) (n c8 m c9 lp : Nat) (W : World) : Prop where
 val : Pl.Valid r
 eq : r = apN d ms k
 okk : ∀ j z, j < k → ms[j]? = some z → apC (apN d ms j) z = 0
 hn : n = r.n
 hm : m = 4 * r.n
 hl : lp = r.lp
 at_ : Row W ga 24 [.slice A9 n c8, .slice B9 m c9, .int .i64 (lp : Int)]
 res : Row W (w.heap.size + 1) 24 [.slice none 0 0, .slice none 0 0, .int .i64 0]
 t : DgT W A9 B9 r
 own : W.ownsRow (ga + 1) 58 11 v k (stps ss)
 sl : ss.length = k
 sok : ∀ j s, ss[j]? = some s → StOk (apN d ms j).n (apN d ms (j + 1)).n s
 sz : ∀ j, j ≤ k → (apN d ms j).n ≤ 64
 bel : Below w.heap.size w W
 lo : w.heap.size + 1 < ga
section
variable {w W W' : World} {ga k : Nat} {d r : Pl.Dg} {ms : List Mv} {ss : List Stp} {v : Value} {A9 B9 : Option Addr} {n c8 m c9 lp : Nat}
theorem PY.below (h : PY w ga d ms k r ss v A9 B9 n c8 m c9 lp W) (hb : Below W.heap.size W W') : PY w ga d ms k r ss v A9 B9 n c8 m c9 lp W' :=
 ⟨h.val, h.eq, h.okk, h.hn, h.hm, h.hl, h.at_.below hb, h.res.below hb, h.t.keep hb, own_below h.own hb, h.sl, h.sok, h.sz, h.bel.trans (hb.mono h.bel.size), h.lo⟩
theorem PY.alloc (h : PY w ga d ms k r ss v A9 B9 n c8 m c9 lp W) (o : Obj) : PY w ga d ms k r ss v A9 B9 n c8 m c9 lp (W.alloc o) := h.below ((Below.refl _ _).alloc (Nat.le_refl _) o)
end
theorem own_neS {W : World} {base b n : Nat} {t : TypeId} {v : Value} {xs vs : List Value} (h : W.ownsRow base 58 11 v n xs) (hr : Row W b t vs) (ht : 58 ≠ t) : some b ≠ v.ownBlock := own_neT h hr ht
theorem DgT.grownS {w w' : World} {A B : Option Addr} {d : Pl.Dg} {base n : Nat} {v : Value} {xs : List Value} (h : DgT w A B d) (ho : w.ownsRow base 58 11 v n xs) (hg : w.grownBy w' v.ownBlock) : DgT w' A B d :=
 ⟨h.s.grown hg (fun g e => ownsRow_block ho g e) (by decide), h.m.grown hg (fun g e => ownsRow_block ho g e) (by decide)⟩
theorem stok_of {r : Pl.Dg} (hr : Pl.Valid r) {z : Mv} (h : apC r z = 0) (f : Int) (hf : z.kind = 4 → f = z.x ∨ f = z.y) : StOk r.n (apD r z).n ⟨z, apI r z, f⟩ := by
 have hn := ap_n hr h
 obtain ⟨_, hin, _⟩ := apC_zero h
 obtain ⟨k, x, y, s, o⟩ := z
 unfold inR at hin
 unfold gro at hn
 simp only at hn hin hf ⊢
 refine ⟨apI_in hr h, fun e => ?_, fun e => ?_, fun e => ?_, fun e => ?_, fun e1 e2 e3 e4 => ?_⟩
 ·have e' : k = 1 := e
  subst e'
  simp only [if_pos] at hn
  omega
 ·have e' : k = 3 := e
  subst e'
  simp at hn
  omega
 ·have e' : k = 2 := e
  subst e'
  simp at hn hin
  exact ⟨by omega, hin.1, hin.2.1⟩
 ·have e' : k = 4 := e
  subst e'
  simp at hn hin
  exact ⟨by omega, hin.1, hin.2.1, hin.2.2.1, hf rfl⟩
 ·have a1 : k ≠ 1 := e1
  have a2 : k ≠ 2 := e2
  have a3 : k ≠ 3 := e3
  have a4 : k ≠ 4 := e4
  simp [a1, a2, a3, a4] at hn
  omega
def PlayPost (d : Pl.Dg) (ms : List Mv) (w : World) (e : Ending) (w' : World) : Prop :=
 (∀ k z, ms[k]? = some z → (∀ j y, j < k → ms[j]? = some y → apC (apN d ms j) y = 0) → apC (apN d ms k) z ≠ 0 → e = .returned (.tuple #[.agg #[.slice none 0 0, .slice none 0 0, .int .i64 0], .slice none 0 0, .int .i64 (k : Int), .int .i64 (apC (apN d ms k) z)])) ∧
 ((∀ j y, ms[j]? = some y → apC (apN d ms j) y = 0) → ∃ (A B C : Option Addr) (c1 c2 c3 n m lp : Nat) (bs : List Mv), n = (apN d ms ms.length).n ∧ m = 4 * n ∧ lp = (apN d ms ms.length).lp ∧ Pl.Valid (apN d ms ms.length) ∧
   e = .returned (.tuple #[.agg #[.slice A n c1, .slice B m c2, .int .i64 (lp : Int)], .slice C ms.length c3, .int .i64 (-1), .int .i64 0]) ∧ DgT w' A B (apN d ms ms.length) ∧ w'.ownsRow w.heap.size 36 5 (.slice C ms.length c3) ms.length (mvs bs)) ∧ Below w.heap.size w w'
structure ApG (r : Pl.Dg) (z : Mv) : Prop where
 call : ∀ (A B : Option Addr) (n cp cq m lp : Nat) (w : World), n = r.n → m = 4 * r.n → lp = r.lp → DgAt w A B r → Calls Tryz.prog 22 #[.agg #[.slice A n cp, .slice B m cq, .int .i64 (lp : Int)], .agg #[.int .i64 z.kind, .int .i64 z.x, .int .i64 z.y, .int .i64 z.sign, .bool z.over]] w (ResC (apC r z) (apD r z) (apI r z) w)
 ok : apC r z = 0 → Pl.Valid (apD r z)
 st : apC r z = 0 → ∀ f, (z.kind = 4 → f = z.x ∨ f = z.y) → StOk r.n (apD r z).n ⟨z, apI r z, f⟩
set_option maxRecDepth 100000 in
set_option maxHeartbeats 8000000 in
theorem play_gen (d : Pl.Dg) (hd : Pl.Valid d) (A B C : Option Addr) (cp cq m nc cc : Nat) (ms : List Mv) (w : World) (hm : m = 4 * d.n) (hg : DgAt w A B d) (hc : MvsA w C nc ms) (hnc : nc ≤ 10000)
 (hap : ∀ k z, ms[k]? = some z → Pl.Valid (apN d ms k) → ApG (apN d ms k) z) :
 Calls Tryz.prog 13 #[.agg #[.slice A d.n cp, .slice B m cq, .int .i64 d.lp], .slice C nc cc] w (PlayPost d ms w) := by
 have HAP := hide hap
 clear hap
 have HM := hide hm
 have HG := hide hg
 have HCS := hide hc
 have HCL := hide hc.1
 have hn := hd.wf.few
 have HD := hide hd
 clear hm hg hc
 have R0 := hide ((row_at (W := w) (g := w.heap.size) (t := 24) (vs := [.slice A d.n cp, .slice B m cq, .int .i64 (d.lp : Int)]) rfl).alloc (.cells #[.slice none 0 0, .slice none 0 0, .int .i64 0] 24))
 have S0 := hide (row_at (W := w.alloc (.cells #[.slice A d.n cp, .slice B m cq, .int .i64 (d.lp : Int)] 24)) (g := w.heap.size + 1) (t := 24) (vs := [.slice none 0 0, .slice none 0 0, .int .i64 0]) (by simp))
 have B0 := hide (show Below w.heap.size w ((w.alloc (.cells #[.slice A d.n cp, .slice B m cq, .int .i64 (d.lp : Int)] 24)).alloc (.cells #[.slice none 0 0, .slice none 0 0, .int .i64 0] 24)) from ((Below.refl _ _).alloc (Nat.le_refl _) _).alloc (by simp) _)
 have hmk := fun W : World => run_steps0 nc (by omega) W
 go_enter Tryz.func13, Tryz.ntmps13
 go_wp2_with fail
 refine (valid_yes d hd A B cp cq m _ HM.out (HG.out.keep B0.out)).mono ?_
 rintro e w1 ⟨rfl, hb1⟩
 have R1 := hide (R0.out.below hb1)
 have S1 := hide (S0.out.below hb1)
 have B1 := hide (B0.out.trans (hb1.mono B0.out.size))
 clear hb1 R0 S0 B0
 obtain ⟨d0, d1, d2, d3⟩ := box3 R1.out
 have hnc1 : ¬ ((10000 : Int) < (nc : Int)) := by omega
 go_wp2_with fail
 refine (clone_all d A B cp cq m _ HM.out (HG.out.keep B1.out) hn).mono ?_
 rintro e w2 ⟨A9, B9, c8, c9, rfl, hT, hb2⟩
 have hw2 : w.heap.size + 1 < w2.heap.size := (S1.out.below hb2).lt
 obtain ⟨V, hV⟩ : ∃ V, V = (w2.alloc (.cells #[.slice A9 d.n c8, .slice B9 m c9, .int .i64 (d.lp : Int)] 24)).alloc (.cells (madeCells (Value.cells (.agg #[.int .i64 0, .int .i64 0, .int .i64 0, .int .i64 0, .bool false, .int .i64 0, .int .i64 0, .int .i64 0, .int .i64 0, .bool false, .int .i64 0])) (nc * 11)) 58) := ⟨_, rfl⟩
 have ap0 : apN d ms 0 = d := by cases ms <;> rfl
 have L0 := hide (show PY w w2.heap.size d ms 0 d [] (.slice (some ⟨w2.heap.size + 1, 0, none⟩) 0 nc) A9 B9 d.n c8 m c9 d.lp V from by
  rw [hV]
  refine ⟨HD.out, ap0.symm, fun j z hj => by omega, rfl, HM.out, rfl, (row_at (vs := [.slice A9 d.n c8, .slice B9 m c9, .int .i64 (d.lp : Int)]) rfl).alloc _, ((S1.out.below hb2).alloc _).alloc _, hT.keep (((Below.refl w2.heap.size w2).alloc (Nat.le_refl _) _).alloc (by simp) _), ?_, rfl, (fun j s hs => by cases hs), fun j hj => ?_, ((B1.out.trans (hb2.mono B1.out.size)).alloc (B1.out.trans (hb2.mono B1.out.size)).size _).alloc (by simp; omega) _, hw2⟩
  ·have := World.ownsRow_made (base := w2.heap.size + 1) (e := 58) (size := 11) (w2.alloc (.cells #[.slice A9 d.n c8, .slice B9 m c9, .int .i64 (d.lp : Int)] 24)) (madeCells (Value.cells (.agg #[.int .i64 0, .int .i64 0, .int .i64 0, .int .i64 0, .bool false, .int .i64 0, .int .i64 0, .int .i64 0, .int .i64 0, .bool false, .int .i64 0])) (nc * 11)) nc (by simp) (by unfold maxLen; omega) (size_madeCells _ _)
   simpa [stps] using this
  ·obtain rfl : j = 0 := by omega
   rw [ap0]; exact hn)
 clear hb2 hT d0 d1 d2 d3 R1 S1 B1 ap0
 rw [hV] at L0
 clear hV
 go_wp2_with fail
 obtain ⟨ga, hga⟩ : ∃ g, g = w2.heap.size := ⟨_, rfl⟩
 rw [← hga] at L0 hw2 ⊢
 have HGA := hide hga
 clear hga
 go_loopg [9, 10, 11, 12, 13, 14, 15, 31] nc (fun g s9 s10 s11 s12 s13 s14 s15 s31 wx => ∃ (k : Nat) (r : Pl.Dg) (ss : List Stp) (A9 B9 : Option Addr) (n c8 m c9 lp : Nat), k + g = nc ∧ s31 = .int .i64 (k : Int) ∧ PY w ga d ms k r ss s9 A9 B9 n c8 m c9 lp wx)
 case atStart => exact ⟨0, _, _, _, _, _, _, _, _, _, by omega, rfl, L0.out⟩
 case round =>
  clear L0
  obtain ⟨k, r, ss, A9, B9, n, c8, m, c9, lp, hkg, rfl, hl⟩ := hrel
  have HKG := hide hkg
  have K0 := hide hl
  have hknc : k ≤ nc := by omega
  have hlp := hl.val.wf.lp
  rw [← hl.hl] at hlp
  have hrn := hl.val.wf.few
  rw [← hl.hn] at hrn
  have hga1 := hl.at_.lt
  obtain ⟨S7, c7, rfl⟩ := owns_slice hl.own
  clear hl
  obtain ⟨d0, d1, d2, d3⟩ := box3 K0.out.at_
  by_cases hk : k < nc
  ·have hki : (k : Int) < (nc : Int) := by omega
   have k0 : (0 : Int) ≤ (k : Int) := by omega
   obtain ⟨bb, oo, zk, zx, zy, zs, zo, rfl, hz, x0, x1, x2, x3, x4⟩ := (HCS.out.keep K0.out.bel).at_ hk
   have HZ := hide hz
   have M4 := hide (row_at (W := wr) (g := wr.heap.size) (t := 36) (vs := [.int .i64 zk, .int .i64 zx, .int .i64 zy, .int .i64 zs, .bool zo]) rfl)
   have K4 := hide (K0.out.alloc (.cells #[.int .i64 zk, .int .i64 zx, .int .i64 zy, .int .i64 zs, .bool zo] 36))
   clear hz hkg
   go_wp2_with fail
   have HAG := hide (show ApG r ⟨zk, zx, zy, zs, zo⟩ from by rw [K4.out.eq]; exact HAP.out k _ HZ.out (by rw [← K4.out.eq]; exact K4.out.val))
   refine (HAG.out.call A9 B9 n c8 c9 m lp _ K4.out.hn K4.out.hm K4.out.hl K4.out.t.at).mono ?_
   intro e w5 hres
   have K5 := hide (K4.out.below hres.2.2)
   have M5 := hide (M4.out.below hres.2.2)
   have hw5 : wr.heap.size < w5.heap.size := M5.out.lt
   obtain ⟨gM, hgM⟩ : ∃ g, g = wr.heap.size := ⟨_, rfl⟩
   rw [← hgM] at M5 hw5 ⊢
   obtain ⟨ce, hce⟩ : ∃ ce, ce = apC r ⟨zk, zx, zy, zs, zo⟩ := ⟨_, rfl⟩
   by_cases h0 : ce = 0
   ·have HOK := hide (show apC r ⟨zk, zx, zy, zs, zo⟩ = 0 by rw [← hce]; exact h0)
    obtain ⟨A8, B8, b8, b9, k9, x9, y9, s9, o9, hmv, rfl, hT⟩ := (hres.2.1 HOK.out).split
    have hVr := K4.out.val
    have HV2 := hide (HAG.out.ok HOK.out)
    have hso := fun f hf => HAG.out.st HOK.out f hf
    rw [hmv] at hso
    have hap := apN_succ ms d k _ HZ.out
    rw [← K4.out.eq] at hap
    have hinr := (apC_zero HOK.out).2.1
    obtain ⟨r2, hr2⟩ : ∃ r2, r2 = apD r ⟨zk, zx, zy, zs, zo⟩ := ⟨_, rfl⟩
    rw [← hr2] at hT HV2 hso hap ⊢
    have HR2 := hide hap.symm
    have HSO := hide hso
    have HT := hide hT
    have HIR := hide hinr
    have hr2n := HV2.out.wf.few
    have hr2l := HV2.out.wf.lp
    obtain ⟨N8, hN8⟩ : ∃ n, n = r2.n := ⟨_, rfl⟩
    obtain ⟨M8, hM8⟩ : ∃ n, n = 4 * r2.n := ⟨_, rfl⟩
    obtain ⟨L8, hL8⟩ : ∃ n, n = r2.lp := ⟨_, rfl⟩
    rw [← hM8, ← hN8, ← hL8]
    rw [← hN8] at hr2n
    rw [← hL8] at hr2l
    have HN8 := hide hN8
    have HM8 := hide hM8
    have HL8 := hide hL8
    have h50 : ga < w5.heap.size := K5.out.at_.lt
    clear hmv hT hres hr2 hN8 hM8 hL8 hso hap hinr d0 d1 d2 d3 x0 x1 x2 x3 x4 K4 M4 K0 hce h0 hgM
    obtain ⟨d0, d1, d2, d3⟩ := box3 K5.out.at_
    obtain ⟨m0, m1, m2, m3, m4, m5⟩ := box5 M5.out
    go_upto_region 14 with fail
    obtain ⟨V6, hV6⟩ : ∃ V, V = ((w5.alloc (.cells #[.slice A8 N8 b8, .slice B8 M8 b9, .int .i64 (L8 : Int)] 24)).alloc (.cells #[.int .i64 k9, .int .i64 x9, .int .i64 y9, .int .i64 s9, .bool o9] 36)).alloc (.cells #[.int .i64 zk, .int .i64 zx, .int .i64 zy, .int .i64 zs, .bool zo, .int .i64 k9, .int .i64 x9, .int .i64 y9, .int .i64 s9, .bool o9, .int .i64 0] 58) := ⟨_, rfl⟩
    obtain ⟨g12, hg12⟩ : ∃ g, g = w5.heap.size := ⟨_, rfl⟩
    obtain ⟨g15, hg15⟩ : ∃ g, g = w5.heap.size + 1 + 1 := ⟨_, rfl⟩
    have K6 := hide (show PY w ga d ms k r ss (.slice S7 k c7) A9 B9 n c8 m c9 lp V6 by rw [hV6]; exact ((K5.out.alloc _).alloc _).alloc _)
    have M6 := hide (show Row V6 gM 36 [.int .i64 zk, .int .i64 zx, .int .i64 zy, .int .i64 zs, .bool zo] by rw [hV6]; exact ((M5.out.alloc _).alloc _).alloc _)
    have D6 := hide (show Row V6 g12 24 [.slice A8 N8 b8, .slice B8 M8 b9, .int .i64 (L8 : Int)] by rw [hV6, hg12]; exact ((row_at (vs := [.slice A8 N8 b8, .slice B8 M8 b9, .int .i64 (L8 : Int)]) rfl).alloc _).alloc _)
    have S6 := hide (show Row V6 g15 58 [.int .i64 zk, .int .i64 zx, .int .i64 zy, .int .i64 zs, .bool zo, .int .i64 k9, .int .i64 x9, .int .i64 y9, .int .i64 s9, .bool o9, .int .i64 0] by rw [hV6, hg15]; exact row_at (vs := [.int .i64 zk, .int .i64 zx, .int .i64 zy, .int .i64 zs, .bool zo, .int .i64 k9, .int .i64 x9, .int .i64 y9, .int .i64 s9, .bool o9, .int .i64 0]) (by simp))
    have T6 := hide (show DgT V6 A8 B8 r2 by rw [hV6]; exact HT.out.keep ((((Below.refl w5.heap.size w5).alloc (Nat.le_refl _) _).alloc (by simp) _).alloc (by simp; omega) _))
    have hg1215 : ga < g12 ∧ g12 < g15 := by omega
    obtain ⟨hga12, hg1215⟩ := hg1215
    have hS7 : ∀ q, (Value.slice S7 k c7).ownBlock = some q → q < g12 := fun q hq => by rw [hg12]; exact (K5.out.own.lt q hq).2
    rw [← hV6, ← hg15, ← hg12]
    clear hV6 hg12 hg15 K5 M5 HT d0 d1 d2 d3 m0 m1 m2 m3 m4 m5 h50 hw5
    obtain ⟨m0, m1, m2, m3, m4, m5⟩ := box5 M6.out
    by_cases z4 : zk = 4
    ·subst z4
     have hin4 := HIR.out
     unfold inR at hin4
     simp at hin4
     obtain ⟨hx0, hxy, hyn, hrest⟩ := hin4
     clear hrest
     obtain ⟨a, rfl⟩ := Int.eq_ofNat_of_zero_le hx0
     obtain ⟨b, rfl⟩ := Int.eq_ofNat_of_zero_le (show (0 : Int) ≤ zy by omega)
     have han : a < r.n := by omega
     obtain ⟨d0, d1, d2, d3⟩ := box3 K6.out.at_
     clear hx0 hxy hyn
     go_wp2_with fail
     refine (leading_any r K6.out.val.wf A9 B9 c8 c9 m n (lp : Int) a b _ K6.out.hm K6.out.t.at han).mono ?_
     rintro e w7 ⟨hx7, hb7⟩
     obtain ⟨f, hf, rfl⟩ : ∃ f : Int, (f = (a : Int) ∨ f = (b : Int)) ∧ e = .returned (.int .i64 f) := by
      rcases hx7 with h | h
      ·exact ⟨_, .inl rfl, h⟩
      ·exact ⟨_, .inr rfl, h⟩
     have HFF := hide (show (4 : Int) = 4 → f = (a : Int) ∨ f = (b : Int) from fun _ => hf)
     have K7 := hide (K6.out.below hb7)
     have D7 := hide (D6.out.below hb7)
     have S7' := hide (S6.out.below hb7)
     have T7 := hide (T6.out.keep hb7)
     clear hx7 hb7 hf d0 d1 d2 d3 m0 m1 m2 m3 m4 m5 K6 D6 S6 T6 M6
     have s10 := S7'.out.cell (i := 10) (by simp)
     have sfz : ∀ o, w7.frozen? ⟨g15, o, none⟩ = false := fun o => Row.free S7'.out o
     simp only [List.getElem_cons_succ, List.getElem_cons_zero] at s10
     go_upto_region 16 with fail
     obtain ⟨VV, hVV⟩ : ∃ V, V = w7.setCell ⟨g15, 10, none⟩ (.int .i64 f) := ⟨_, rfl⟩
     have hlo7 := K7.out.lo
     have KV := hide (show PY w ga d ms k r ss (.slice S7 k c7) A9 B9 n c8 m c9 lp VV by
      rw [hVV]
      have h := K7.out
      exact ⟨h.val, h.eq, h.okk, h.hn, h.hm, h.hl, h.at_.other (a := ⟨g15, 10, none⟩) (show ga ≠ g15 by omega) _, h.res.other (a := ⟨g15, 10, none⟩) (show w.heap.size + 1 ≠ g15 by omega) _, ⟨h.t.s.store S7'.out (by decide) _, h.t.m.store S7'.out (by decide) _⟩, own_setNe h.own (fun e => by have := hS7 _ e; omega) 10 _, h.sl, h.sok, h.sz, h.bel.setCell (by show _ ≤ g15; omega) _, h.lo⟩)
     have SV := hide (show Row VV g15 58 [.int .i64 4, .int .i64 (a : Int), .int .i64 (b : Int), .int .i64 zs, .bool zo, .int .i64 k9, .int .i64 x9, .int .i64 y9, .int .i64 s9, .bool o9, .int .i64 f] by rw [hVV]; exact S7'.out.set 10 _)
     have DV := hide (show Row VV g12 24 [.slice A8 N8 b8, .slice B8 M8 b9, .int .i64 (L8 : Int)] by rw [hVV]; exact D7.out.other (a := ⟨g15, 10, none⟩) (show g12 ≠ g15 by omega) _)
     have TV := hide (show DgT VV A8 B8 r2 by rw [hVV]; exact ⟨T7.out.s.store S7'.out (by decide) _, T7.out.m.store S7'.out (by decide) _⟩)
     rw [← hVV]
     clear hVV K7 D7 S7' T7 s10 sfz
     obtain ⟨n0, hn0, hz0, hz1, hz2⟩ := info_parts stepInfo
     have A0 := hide (KV.out.alloc (.cells #[.int .i64 4, .int .i64 (a : Int), .int .i64 (b : Int), .int .i64 zs, .bool zo, .int .i64 k9, .int .i64 x9, .int .i64 y9, .int .i64 s9, .bool o9, .int .i64 f] 58)).own
     have A2 : k + 1 ≤ maxLen := by unfold maxLen; omega
     have A3 : (k + 1) * 88 ≤ 140737488355328 := by omega
     have hgaV : ga < VV.heap.size := KV.out.at_.lt
     have hbs : ga + 1 ≤ (VV.alloc (.cells #[.int .i64 4, .int .i64 (a : Int), .int .i64 (b : Int), .int .i64 zs, .bool zo, .int .i64 k9, .int .i64 x9, .int .i64 y9, .int .i64 s9, .bool o9, .int .i64 f] 58)).heap.size := by simp; omega
     have HBS := hide hbs
     clear hbs
     obtain ⟨v0, v1, v2, v3, v4, v5, v6, v7, v8, v9, v10⟩ : VV.cell? ⟨g15, 0, none⟩ = some (.int .i64 4) ∧ VV.cell? ⟨g15, 1, none⟩ = some (.int .i64 (a : Int)) ∧ VV.cell? ⟨g15, 2, none⟩ = some (.int .i64 (b : Int)) ∧ VV.cell? ⟨g15, 3, none⟩ = some (.int .i64 zs) ∧ VV.cell? ⟨g15, 4, none⟩ = some (.bool zo) ∧ VV.cell? ⟨g15, 5, none⟩ = some (.int .i64 k9) ∧ VV.cell? ⟨g15, 6, none⟩ = some (.int .i64 x9) ∧ VV.cell? ⟨g15, 7, none⟩ = some (.int .i64 y9) ∧ VV.cell? ⟨g15, 8, none⟩ = some (.int .i64 s9) ∧ VV.cell? ⟨g15, 9, none⟩ = some (.bool o9) ∧ VV.cell? ⟨g15, 10, none⟩ = some (.int .i64 f) := ⟨SV.out.cell (i := 0) (by simp), SV.out.cell (i := 1) (by simp), SV.out.cell (i := 2) (by simp), SV.out.cell (i := 3) (by simp), SV.out.cell (i := 4) (by simp), SV.out.cell (i := 5) (by simp), SV.out.cell (i := 6) (by simp), SV.out.cell (i := 7) (by simp), SV.out.cell (i := 8) (by simp), SV.out.cell (i := 9) (by simp), SV.out.cell (i := 10) (by simp)⟩
     go_upto_region 17 with (at_builtin; refine wpList_append_lies _ (by rfl) _ _ 56 (by rfl) (ga + 1) 58 n0 (.agg #[.int .i64 0, .int .i64 0, .int .i64 0, .int .i64 0, .bool false, .int .i64 0, .int .i64 0, .int .i64 0, .int .i64 0, .bool false, .int .i64 0]) 11 88 Tryz.underlying56 hn0 hz0 hz1 hz2 rfl (by omega) _ k (stps ss) (by rfl) A0.out ⟨VV.heap.size, 0, none⟩ 1 1 [.int .i64 4, .int .i64 (a : Int), .int .i64 (b : Int), .int .i64 zs, .bool zo, .int .i64 k9, .int .i64 x9, .int .i64 y9, .int .i64 s9, .bool o9, .int .i64 f] (by rfl) (by rfl) (news_at _ _) (by simp [Value.oneCell']) (by omega) A2 A3 HBS.out (VV.heap.size + 1) (by simp) ?_; intro g16 c16 w8 own8 grow8 at8 lt8; have OWN8 := hide own8; have GR8 := hide grow8; clear own8 grow8 at8 lt8)
     have KA := hide (KV.out.alloc (.cells #[.int .i64 4, .int .i64 (a : Int), .int .i64 (b : Int), .int .i64 zs, .bool zo, .int .i64 k9, .int .i64 x9, .int .i64 y9, .int .i64 s9, .bool o9, .int .i64 f] 58))
     have at8 := hide (KA.out.at_.grown GR8.out (own_neS A0.out KA.out.at_ (by decide)))
     have rs8 := hide (KA.out.res.grown GR8.out (own_neS A0.out KA.out.res (by decide)))
     have dv8 := hide ((DV.out.alloc (.cells #[.int .i64 4, .int .i64 (a : Int), .int .i64 (b : Int), .int .i64 zs, .bool zo, .int .i64 k9, .int .i64 x9, .int .i64 y9, .int .i64 s9, .bool o9, .int .i64 f] 58)).grown GR8.out (own_neS A0.out (DV.out.alloc _) (by decide)))
     have tt8 := hide ((TV.out.keep ((Below.refl VV.heap.size VV).alloc (Nat.le_refl _) (.cells #[.int .i64 4, .int .i64 (a : Int), .int .i64 (b : Int), .int .i64 zs, .bool zo, .int .i64 k9, .int .i64 x9, .int .i64 y9, .int .i64 s9, .bool o9, .int .i64 f] 58))).grownS A0.out GR8.out)
     have bl8 := hide (KA.out.bel.grown GR8.out KA.out.bel.size (fun k hk => by have := (A0.out.lt k hk).1; have := KA.out.lo; omega))
     have okk := hide KV.out.okk
     have sls := hide KV.out.sl
     have sok := hide KV.out.sok
     have szz := hide KV.out.sz
     have eqq := hide KV.out.eq
     have loo := KV.out.lo
     clear KV KA A0 A2 A3 v0 v1 v2 v3 v4 v5 v6 v7 v8 v9 v10 hgaV
     obtain ⟨e0, e1, e2, e3⟩ := box3 at8.out
     obtain ⟨f0, f1, f2, f3⟩ := box3 dv8.out
     have hgd : g12 ≠ ga := by omega
     go_wp2_with fail
     go_roundg (gk - 1)
     case measure => have := HKG.out; omega
     case rel =>
      refine ⟨k + 1, r2, ss ++ [⟨⟨4, (a : Int), (b : Int), zs, zo⟩, ⟨k9, x9, y9, s9, o9⟩, f⟩], A8, B8, N8, b8, M8, b9, L8, by have := HKG.out; omega, by go_num, ?_⟩
      refine ⟨HV2.out, HR2.out, fun j z hj hz => ?_, HN8.out, HM8.out, HL8.out, row3 at8.out rfl _ _ _, ((rs8.out.other (a := ⟨ga, 0, none⟩) (show w.heap.size + 1 ≠ ga by omega) _).other (a := ⟨ga, 1, none⟩) (show w.heap.size + 1 ≠ ga by omega) _).other (a := ⟨ga, 2, none⟩) (show w.heap.size + 1 ≠ ga by omega) _, tt8.out.set3 at8.out _ _ _, ?_, ?_, fun j s hs => ?_, fun j hj => ?_, below3 bl8.out (by omega) _ _ _, loo⟩
      ·rcases Nat.lt_or_ge j k with h | h
       ·exact okk.out j z h hz
       ·obtain rfl : j = k := by omega
        rw [HZ.out] at hz
        injection hz with hz
        rw [← hz, ← eqq.out]
        exact HOK.out
      ·rw [stps_snoc]
       exact ownsRow_setCell_below (ownsRow_setCell_below (ownsRow_setCell_below OWN8.out (a := ⟨ga, 0, none⟩) (by show ga < ga + 1; omega) _) (a := ⟨ga, 1, none⟩) (by show ga < ga + 1; omega) _) (a := ⟨ga, 2, none⟩) (by show ga < ga + 1; omega) _
      ·rw [List.length_append, List.length_singleton, sls.out]
      ·rcases Nat.lt_or_ge j k with h | h
       ·rw [List.getElem?_append_left (by rw [sls.out]; exact h)] at hs
        exact sok.out j s hs
       ·have hjk : j = k := by
         have := (List.getElem?_eq_some_iff.1 hs).1
         rw [List.length_append, List.length_singleton, sls.out] at this
         omega
        subst hjk
        rw [List.getElem?_append_right (by rw [sls.out]; exact Nat.le_refl _), sls.out, Nat.sub_self] at hs
        simp only [List.getElem?_cons_zero, Option.some.injEq] at hs
        subst hs
        rw [← eqq.out, ← HR2.out]
        exact HSO.out _ HFF.out
      ·rcases Nat.lt_or_ge j (k + 1) with h | h
       ·exact szz.out j (by omega)
       ·obtain rfl : j = k + 1 := by omega
        rw [← HR2.out, ← HN8.out]; omega
    ·have z4b : (zk == 4) = false := by rw [beq_eq_false_iff_ne]; exact z4
     have HFF := hide (show zk = 4 → (0 : Int) = zx ∨ (0 : Int) = zy from fun e => absurd e z4)
     go_upto_region 16 with fail
     obtain ⟨VV, hVV⟩ : ∃ V, V = V6 := ⟨_, rfl⟩
     have KV := hide (show PY w ga d ms k r ss (.slice S7 k c7) A9 B9 n c8 m c9 lp VV by rw [hVV]; exact K6.out)
     have SV := hide (show Row VV g15 58 [.int .i64 zk, .int .i64 zx, .int .i64 zy, .int .i64 zs, .bool zo, .int .i64 k9, .int .i64 x9, .int .i64 y9, .int .i64 s9, .bool o9, .int .i64 0] by rw [hVV]; exact S6.out)
     have DV := hide (show Row VV g12 24 [.slice A8 N8 b8, .slice B8 M8 b9, .int .i64 (L8 : Int)] by rw [hVV]; exact D6.out)
     have TV := hide (show DgT VV A8 B8 r2 by rw [hVV]; exact T6.out)
     rw [← hVV]
     clear hVV K6 D6 S6 T6 M6 m0 m1 m2 m3 m4 m5
     obtain ⟨n0, hn0, hz0, hz1, hz2⟩ := info_parts stepInfo
     have A0 := hide (KV.out.alloc (.cells #[.int .i64 zk, .int .i64 zx, .int .i64 zy, .int .i64 zs, .bool zo, .int .i64 k9, .int .i64 x9, .int .i64 y9, .int .i64 s9, .bool o9, .int .i64 0] 58)).own
     have A2 : k + 1 ≤ maxLen := by unfold maxLen; omega
     have A3 : (k + 1) * 88 ≤ 140737488355328 := by omega
     have hgaV : ga < VV.heap.size := KV.out.at_.lt
     have hbs : ga + 1 ≤ (VV.alloc (.cells #[.int .i64 zk, .int .i64 zx, .int .i64 zy, .int .i64 zs, .bool zo, .int .i64 k9, .int .i64 x9, .int .i64 y9, .int .i64 s9, .bool o9, .int .i64 0] 58)).heap.size := by simp; omega
     have HBS := hide hbs
     clear hbs
     obtain ⟨v0, v1, v2, v3, v4, v5, v6, v7, v8, v9, v10⟩ : VV.cell? ⟨g15, 0, none⟩ = some (.int .i64 zk) ∧ VV.cell? ⟨g15, 1, none⟩ = some (.int .i64 zx) ∧ VV.cell? ⟨g15, 2, none⟩ = some (.int .i64 zy) ∧ VV.cell? ⟨g15, 3, none⟩ = some (.int .i64 zs) ∧ VV.cell? ⟨g15, 4, none⟩ = some (.bool zo) ∧ VV.cell? ⟨g15, 5, none⟩ = some (.int .i64 k9) ∧ VV.cell? ⟨g15, 6, none⟩ = some (.int .i64 x9) ∧ VV.cell? ⟨g15, 7, none⟩ = some (.int .i64 y9) ∧ VV.cell? ⟨g15, 8, none⟩ = some (.int .i64 s9) ∧ VV.cell? ⟨g15, 9, none⟩ = some (.bool o9) ∧ VV.cell? ⟨g15, 10, none⟩ = some (.int .i64 0) := ⟨SV.out.cell (i := 0) (by simp), SV.out.cell (i := 1) (by simp), SV.out.cell (i := 2) (by simp), SV.out.cell (i := 3) (by simp), SV.out.cell (i := 4) (by simp), SV.out.cell (i := 5) (by simp), SV.out.cell (i := 6) (by simp), SV.out.cell (i := 7) (by simp), SV.out.cell (i := 8) (by simp), SV.out.cell (i := 9) (by simp), SV.out.cell (i := 10) (by simp)⟩
     go_upto_region 17 with (at_builtin; refine wpList_append_lies _ (by rfl) _ _ 56 (by rfl) (ga + 1) 58 n0 (.agg #[.int .i64 0, .int .i64 0, .int .i64 0, .int .i64 0, .bool false, .int .i64 0, .int .i64 0, .int .i64 0, .int .i64 0, .bool false, .int .i64 0]) 11 88 Tryz.underlying56 hn0 hz0 hz1 hz2 rfl (by omega) _ k (stps ss) (by rfl) A0.out ⟨VV.heap.size, 0, none⟩ 1 1 [.int .i64 zk, .int .i64 zx, .int .i64 zy, .int .i64 zs, .bool zo, .int .i64 k9, .int .i64 x9, .int .i64 y9, .int .i64 s9, .bool o9, .int .i64 0] (by rfl) (by rfl) (news_at _ _) (by simp [Value.oneCell']) (by omega) A2 A3 HBS.out (VV.heap.size + 1) (by simp) ?_; intro g16 c16 w8 own8 grow8 at8 lt8; have OWN8 := hide own8; have GR8 := hide grow8; clear own8 grow8 at8 lt8)
     have KA := hide (KV.out.alloc (.cells #[.int .i64 zk, .int .i64 zx, .int .i64 zy, .int .i64 zs, .bool zo, .int .i64 k9, .int .i64 x9, .int .i64 y9, .int .i64 s9, .bool o9, .int .i64 0] 58))
     have at8 := hide (KA.out.at_.grown GR8.out (own_neS A0.out KA.out.at_ (by decide)))
     have rs8 := hide (KA.out.res.grown GR8.out (own_neS A0.out KA.out.res (by decide)))
     have dv8 := hide ((DV.out.alloc (.cells #[.int .i64 zk, .int .i64 zx, .int .i64 zy, .int .i64 zs, .bool zo, .int .i64 k9, .int .i64 x9, .int .i64 y9, .int .i64 s9, .bool o9, .int .i64 0] 58)).grown GR8.out (own_neS A0.out (DV.out.alloc _) (by decide)))
     have tt8 := hide ((TV.out.keep ((Below.refl VV.heap.size VV).alloc (Nat.le_refl _) (.cells #[.int .i64 zk, .int .i64 zx, .int .i64 zy, .int .i64 zs, .bool zo, .int .i64 k9, .int .i64 x9, .int .i64 y9, .int .i64 s9, .bool o9, .int .i64 0] 58))).grownS A0.out GR8.out)
     have bl8 := hide (KA.out.bel.grown GR8.out KA.out.bel.size (fun k hk => by have := (A0.out.lt k hk).1; have := KA.out.lo; omega))
     have okk := hide KV.out.okk
     have sls := hide KV.out.sl
     have sok := hide KV.out.sok
     have szz := hide KV.out.sz
     have eqq := hide KV.out.eq
     have loo := KV.out.lo
     clear KV KA A0 A2 A3 v0 v1 v2 v3 v4 v5 v6 v7 v8 v9 v10 hgaV
     obtain ⟨e0, e1, e2, e3⟩ := box3 at8.out
     obtain ⟨f0, f1, f2, f3⟩ := box3 dv8.out
     have hgd : g12 ≠ ga := by omega
     go_wp2_with fail
     go_roundg (gk - 1)
     case measure => have := HKG.out; omega
     case rel =>
      refine ⟨k + 1, r2, ss ++ [⟨⟨zk, zx, zy, zs, zo⟩, ⟨k9, x9, y9, s9, o9⟩, 0⟩], A8, B8, N8, b8, M8, b9, L8, by have := HKG.out; omega, by go_num, ?_⟩
      refine ⟨HV2.out, HR2.out, fun j z hj hz => ?_, HN8.out, HM8.out, HL8.out, row3 at8.out rfl _ _ _, ((rs8.out.other (a := ⟨ga, 0, none⟩) (show w.heap.size + 1 ≠ ga by omega) _).other (a := ⟨ga, 1, none⟩) (show w.heap.size + 1 ≠ ga by omega) _).other (a := ⟨ga, 2, none⟩) (show w.heap.size + 1 ≠ ga by omega) _, tt8.out.set3 at8.out _ _ _, ?_, ?_, fun j s hs => ?_, fun j hj => ?_, below3 bl8.out (by omega) _ _ _, loo⟩
      ·rcases Nat.lt_or_ge j k with h | h
       ·exact okk.out j z h hz
       ·obtain rfl : j = k := by omega
        rw [HZ.out] at hz
        injection hz with hz
        rw [← hz, ← eqq.out]
        exact HOK.out
      ·rw [stps_snoc]
       exact ownsRow_setCell_below (ownsRow_setCell_below (ownsRow_setCell_below OWN8.out (a := ⟨ga, 0, none⟩) (by show ga < ga + 1; omega) _) (a := ⟨ga, 1, none⟩) (by show ga < ga + 1; omega) _) (a := ⟨ga, 2, none⟩) (by show ga < ga + 1; omega) _
      ·rw [List.length_append, List.length_singleton, sls.out]
      ·rcases Nat.lt_or_ge j k with h | h
       ·rw [List.getElem?_append_left (by rw [sls.out]; exact h)] at hs
        exact sok.out j s hs
       ·have hjk : j = k := by
         have := (List.getElem?_eq_some_iff.1 hs).1
         rw [List.length_append, List.length_singleton, sls.out] at this
         omega
        subst hjk
        rw [List.getElem?_append_right (by rw [sls.out]; exact Nat.le_refl _), sls.out, Nat.sub_self] at hs
        simp only [List.getElem?_cons_zero, Option.some.injEq] at hs
        subst hs
        rw [← eqq.out, ← HR2.out]
        exact HSO.out _ HFF.out
      ·rcases Nat.lt_or_ge j (k + 1) with h | h
       ·exact szz.out j (by omega)
       ·obtain rfl : j = k + 1 := by omega
        rw [← HR2.out, ← HN8.out]; omega
   ·have hE := hres.1 (by rw [← hce]; exact h0)
    rw [← hce] at hE
    obtain rfl := hE.split
    have hceb : (ce == 0) = false := by rw [beq_eq_false_iff_ne]; exact h0
    have hcen : (ce != 0) = true := by rw [bne_iff_ne]; exact h0
    have HCE := hide hce
    clear hres hE hgM hce x0 x1 x2 x3 x4 d0 d1 d2 d3 K4 M4 K0
    have res6 := (K5.out.res.alloc (.cells #[.slice none 0 0, .slice none 0 0, .int .i64 0] 24)).alloc (.cells #[.int .i64 0, .int .i64 0, .int .i64 0, .int .i64 0, .bool false] 36)
    obtain ⟨f0, f1, f2, f3⟩ := box3 res6
    have h50 : w.heap.size + 1 < w5.heap.size := by have h1 := K5.out.at_.lt; have h2 := K5.out.lo; omega
    obtain ⟨q0, q1, q2, q3⟩ := box3 (row3 res6 rfl (.slice none 0 0) (.slice none 0 0) (.int .i64 0))
    have BF := hide (below3 (show Below w.heap.size w ((w5.alloc (.cells #[.slice none 0 0, .slice none 0 0, .int .i64 0] 24)).alloc (.cells #[.int .i64 0, .int .i64 0, .int .i64 0, .int .i64 0, .bool false] 36)) from (K5.out.bel.alloc K5.out.bel.size _).alloc (by simp; have := K5.out.bel.size; omega) _) (show w.heap.size ≤ w.heap.size + 1 by omega) (.slice none 0 0) (.slice none 0 0) (.int .i64 0))
    have HPO := hide (show PlayPost d ms w (.returned (.tuple #[.agg #[.slice none 0 0, .slice none 0 0, .int .i64 0], .slice none 0 0, .int .i64 (k : Int), .int .i64 ce])) _ from ⟨fun k2 z2 hz2 hok2 hne2 => by
     have hkk : k2 = k := by
      rcases Nat.lt_trichotomy k2 k with h | h | h
      ·exact absurd (K5.out.okk k2 z2 h hz2) hne2
      ·exact h
      ·have := hok2 k _ h HZ.out
       rw [← K5.out.eq, ← HCE.out] at this
       exact absurd this h0
     subst hkk
     rw [HZ.out] at hz2
     injection hz2 with hz2
     rw [← hz2, ← K5.out.eq, ← HCE.out], fun hall => by
     have := hall k _ HZ.out
     rw [← K5.out.eq, ← HCE.out] at this
     exact absurd this h0, BF.out⟩)
    go_wp2_with fail
    refine bodyPost_ret (v := .tuple #[.agg #[.slice none 0 0, .slice none 0 0, .int .i64 0], .slice none 0 0, .int .i64 (k : Int), .int .i64 ce]) (by simp [results, Tryz.results13, go_sem, q0, q1, q2]) rfl ?_
    exact HPO.out
  ·have hki : ¬ ((k : Int) < (nc : Int)) := by omega
   obtain rfl : k = nc := by omega
   have K1 := hide (K0.out.below (Below.refl wr.heap.size wr).drew)
   have hgw : w.heap.size + 1 ≠ ga := by omega
   have HBN := hide (show n = (fun j => (apN d ms j).n) k from by show n = (apN d ms k).n; rw [← K0.out.eq]; exact K0.out.hn)
   have HBS := hide (show ∀ j, j ≤ k → (fun j => (apN d ms j).n) j ≤ 100 from fun j hj => by have := K0.out.sz j hj; show (apN d ms j).n ≤ 100; omega)
   have HST := hide (st_own K1.out.own K1.out.sl)
   have hwr1 : w.heap.size + 1 < wr.heap.size := by omega
   clear hkg
   go_upto_region 19 with fail
   go_region_held3 (fun w' => w'.cell? ⟨ga, 0, none⟩ = some (.slice A9 n c8) ∧ w'.cell? ⟨ga, 1, none⟩ = some (.slice B9 m c9) ∧ w'.cell? ⟨ga, 2, none⟩ = some (.int .i64 (lp : Int)))
    (first | go_keep | assumption | (exact ⟨k0, k1, k2⟩))
    (first
    | (go_at_call 33
       refine Calls.mono (back_any ss (fun j => (apN d ms j).n) S7 k c7 n _ HST.out hnc HBN.out HBS.out K1.out.sok) ?_
       rintro e w3 ⟨⟨BC, cb, bs, rfl, hown3⟩, hb3⟩
       have K3 := hide (K1.out.below hb3)
       have O3 := hide hown3
       obtain ⟨k0, k1, k2, k3⟩ := box3 (K1.out.at_.below hb3)
       obtain ⟨f0, f1, f2, f3⟩ := box3 (K1.out.res.below hb3)))
   all_goals (go_wp2_with fail)
   have RR := row3 K3.out.res rfl (.slice A9 n c8) (.slice B9 m c9) (.int .i64 (lp : Int))
   obtain ⟨q0, q1, q2, q3⟩ := box3 RR
   have TT := K3.out.t.set3 K3.out.res (.slice A9 n c8) (.slice B9 m c9) (.int .i64 (lp : Int))
   have BB := below3 K3.out.bel (show w.heap.size ≤ w.heap.size + 1 by omega) (.slice A9 n c8) (.slice B9 m c9) (.int .i64 (lp : Int))
   have hbse : w.heap.size + 1 < wr.drew.heap.size := hwr1
   have OO := own_lower (base' := w.heap.size) (ownsRow_setCell_below (ownsRow_setCell_below (ownsRow_setCell_below O3.out (a := ⟨w.heap.size + 1, 0, none⟩) hbse (.slice A9 n c8)) (a := ⟨w.heap.size + 1, 1, none⟩) hbse (.slice B9 m c9)) (a := ⟨w.heap.size + 1, 2, none⟩) hbse (.int .i64 (lp : Int))) (by omega)
   refine bodyPost_ret (v := .tuple #[.agg #[.slice A9 n c8, .slice B9 m c9, .int .i64 (lp : Int)], .slice BC k cb, .int .i64 (-1), .int .i64 0]) (by simp [results, Tryz.results13, go_sem, q0, q1, q2]) rfl ?_
   have hcl : k = ms.length := HCL.out
   refine ⟨fun k2 z2 hz2 hok2 hne2 => ?_, fun _ => ?_, BB⟩
   ·exfalso
    have h := (List.getElem?_eq_some_iff.1 hz2).1
    exact hne2 (K0.out.okk k2 z2 (by omega) hz2)
   ·rw [← hcl]
    refine ⟨A9, B9, BC, c8, c9, cb, n, m, lp, bs, ?_, ?_, ?_, ?_, rfl, ?_, OO⟩
    ·rw [← K0.out.eq]; exact K0.out.hn
    ·rw [K0.out.hn]; exact K0.out.hm
    ·rw [← K0.out.eq]; exact K0.out.hl
    ·rw [← K0.out.eq]; exact K0.out.val
    ·rw [← K0.out.eq]; exact TT
theorem apg_all {r : Pl.Dg} (hr : Pl.Valid r) (z : Mv) : ApG r z := by
 obtain ⟨k, x, y, s, o⟩ := z
 exact ⟨fun A B n cp cq m lp w hn hm hl hg => apply_n r hr A B n cp cq m lp k x y s o w hn hm hl hg, fun h => (ap_ok hr h).1, fun h f hf => stok_of hr h f hf⟩
theorem play_any (d : Pl.Dg) (hd : Pl.Valid d) (A B C : Option Addr) (cp cq m nc cc : Nat) (ms : List Mv) (w : World) (hm : m = 4 * d.n) (hg : DgAt w A B d) (hc : MvsA w C nc ms) (hnc : nc ≤ 10000) :
 Calls Tryz.prog 13 #[.agg #[.slice A d.n cp, .slice B m cq, .int .i64 d.lp], .slice C nc cc] w (PlayPost d ms w) :=
 play_gen d hd A B C cp cq m nc cc ms w hm hg hc hnc (fun k z _ h => apg_all h z)
end Go.Proofs.YtlffopdoeobgaaaGreatDoor
end
section
namespace Go.Proofs.YtlffopdoeobgaaaGreatDoor
open Go Go.RowKit
attribute [local go_sem ↓] Go.wp_at_zero Go.wp_at_succ
def playErr (c : Int) : Ending := .returned (.tuple #[.agg #[.slice none 0 0, .slice none 0 0, .int .i64 0], .slice none 0 0, .int .i64 (-1), .int .i64 c])
set_option maxRecDepth 100000 in
set_option maxHeartbeats 4000000 in
theorem play_bad (sg mt : List Int) (lp : Int) (A B C : Option Addr) (n q cp cq nc cc : Nat) (w : World) (hs : IntsAt w A n sg) (hm : IntsAt w B q mt) (hn : n ≤ maxLen) (hq : q ≤ maxLen) (hlp : -9223372036854775808 ≤ lp ∧ lp ≤ 9223372036854775807) (hv : ¬ Pl.VL sg mt lp) :
 Calls Tryz.prog 13 #[.agg #[.slice A n cp, .slice B q cq, .int .i64 lp], .slice C nc cc] w fun e w' => e = playErr 1 ∧ Below w.heap.size w w' := by
 have HS := hide hs
 have HM := hide hm
 clear hs hm
 have S0 := hide (row_at (W := w.alloc (.cells #[.slice A n cp, .slice B q cq, .int .i64 lp] 24)) (g := w.heap.size + 1) (t := 24) (vs := [.slice none 0 0, .slice none 0 0, .int .i64 0]) (by simp))
 have B0 := hide (show Below w.heap.size w ((w.alloc (.cells #[.slice A n cp, .slice B q cq, .int .i64 lp] 24)).alloc (.cells #[.slice none 0 0, .slice none 0 0, .int .i64 0] 24)) from ((Below.refl _ _).alloc (Nat.le_refl _) _).alloc (by simp) _)
 go_enter Tryz.func13, Tryz.ntmps13
 go_wp2_with fail
 refine (valid_any sg mt lp A B n q cp cq _ (HS.out.keep B0.out) (HM.out.keep B0.out) hn hq hlp).mono ?_
 rintro e w1 ⟨rfl, hb1⟩
 rw [Pl.vb_false hv]
 have S1 := hide (S0.out.below hb1)
 have B1 := hide (B0.out.trans (hb1.mono B0.out.size))
 clear hb1
 obtain ⟨f0, f1, f2, f3⟩ := box3 S1.out
 obtain ⟨q0, q1, q2, q3⟩ := box3 (row3 S1.out rfl (.slice none 0 0) (.slice none 0 0) (.int .i64 0))
 have BF := hide (below3 B1.out (show w.heap.size ≤ w.heap.size + 1 by omega) (.slice none 0 0) (.slice none 0 0) (.int .i64 0))
 go_wp2_with fail
 refine bodyPost_ret (v := .tuple #[.agg #[.slice none 0 0, .slice none 0 0, .int .i64 0], .slice none 0 0, .int .i64 (-1), .int .i64 1]) (by simp [results, Tryz.results13, go_sem, q0, q1, q2]) rfl ?_
 exact ⟨rfl, BF.out⟩
theorem eg_a : Pl.pvA rdT [99, 117, 114, 108, 32, 45, 49, 32, 49, 32, 117, 110, 100, 101, 114, 10, 117, 110, 99, 117, 114, 108, 32, 48, 10] 1 [] = .inr [⟨1, -1, 0, 1, false⟩, ⟨2, 0, 0, 0, false⟩] := by kernel_rfl
theorem eg_b : Pl.pvA rdT [112, 111, 107, 101, 32, 48, 32, 52, 32, 48, 32, 111, 118, 101, 114, 10] 1 [] = .inr [⟨3, 0, 4, 0, true⟩] := by kernel_rfl
end Go.Proofs.YtlffopdoeobgaaaGreatDoor
end
section
namespace Go.Proofs.YtlffopdoeobgaaaGreatDoor
open Go Go.RowKit
attribute [local go_sem ↓] Go.wp_at_zero Go.wp_at_succ
def Lgl (d : Pl.Dg) (ms : List Mv) : Prop := ∀ j y, ms[j]? = some y → apC (apN d ms j) y = 0
def Flt1 (d : Pl.Dg) (ms : List Mv) (k : Nat) (z : Mv) : Prop := ms[k]? = some z ∧ (∀ j y, j < k → ms[j]? = some y → apC (apN d ms j) y = 0) ∧ apC (apN d ms k) z ≠ 0
theorem lgl_or (d : Pl.Dg) (ms : List Mv) : Lgl d ms ∨ ∃ k z, Flt1 d ms k z := by
 by_cases h : Lgl d ms
 ·exact .inl h
 ·refine .inr ?_
  have key : ∀ n, (∀ j y, j < n → ms[j]? = some y → apC (apN d ms j) y = 0) ∨ ∃ k z, Flt1 d ms k z := by
   intro n
   induction n with
   | zero => exact .inl fun j y h => absurd h (Nat.not_lt_zero j)
   | succ n ih =>
     rcases ih with ih | ih
     ·cases hz : ms[n]? with
      | none =>
        refine .inl fun j y hj hy => ?_
        rcases Nat.lt_or_ge j n with h1 | h1
        ·exact ih j y h1 hy
        ·obtain rfl : j = n := by omega
         rw [hz] at hy; cases hy
      | some z =>
        by_cases h0 : apC (apN d ms n) z = 0
        ·refine .inl fun j y hj hy => ?_
         rcases Nat.lt_or_ge j n with h1 | h1
         ·exact ih j y h1 hy
         ·obtain rfl : j = n := by omega
          rw [hz] at hy; injection hy with hy; rw [← hy]; exact h0
        ·exact .inr ⟨n, z, hz, ih, h0⟩
     ·exact .inr ih
  rcases key ms.length with h1 | h1
  ·exact absurd (fun j y hy => h1 j y (List.getElem?_eq_some_iff.1 hy).1 hy) h
  ·exact h1
theorem play_leads (d : Pl.Dg) (hd : Pl.Valid d) (A B C : Option Addr) (cp cq m nc cc : Nat) (ms : List Mv) (w : World) (hm : m = 4 * d.n) (hg : DgAt w A B d) (hc : MvsA w C nc ms) (hnc : nc ≤ 10000) (hl : Lgl d ms) :
 Calls Tryz.prog 13 #[.agg #[.slice A d.n cp, .slice B m cq, .int .i64 d.lp], .slice C nc cc] w fun e w' => ∃ (A B C : Option Addr) (c1 c2 c3 n m lp : Nat) (bs : List Mv), n = (apN d ms ms.length).n ∧ m = 4 * n ∧ lp = (apN d ms ms.length).lp ∧ Pl.Valid (apN d ms ms.length) ∧
 e = .returned (.tuple #[.agg #[.slice A n c1, .slice B m c2, .int .i64 (lp : Int)], .slice C nc c3, .int .i64 (-1), .int .i64 0]) ∧ DgT w' A B (apN d ms ms.length) ∧ w'.ownsRow w.heap.size 36 5 (.slice C nc c3) nc (mvs bs) ∧ Below w.heap.size w w' := by
 refine (play_any d hd A B C cp cq m nc cc ms w hm hg hc hnc).mono ?_
 intro e w' h
 have hcl := hc.1
 subst hcl
 obtain ⟨A1, B1, C1, c1, c2, c3, n1, m1, lp1, bs, h1, h2, h3, h4, h5, h6, h7⟩ := h.2.1 hl
 exact ⟨A1, B1, C1, c1, c2, c3, n1, m1, lp1, bs, h1, h2, h3, h4, h5, h6, h7, h.2.2⟩
theorem play_fault (d : Pl.Dg) (hd : Pl.Valid d) (A B C : Option Addr) (cp cq m nc cc : Nat) (ms : List Mv) (w : World) (hm : m = 4 * d.n) (hg : DgAt w A B d) (hc : MvsA w C nc ms) (hnc : nc ≤ 10000) {k : Nat} {z : Mv} (hl : Flt1 d ms k z) :
 Calls Tryz.prog 13 #[.agg #[.slice A d.n cp, .slice B m cq, .int .i64 d.lp], .slice C nc cc] w fun e w' =>
 e = .returned (.tuple #[.agg #[.slice none 0 0, .slice none 0 0, .int .i64 0], .slice none 0 0, .int .i64 (k : Int), .int .i64 (apC (apN d ms k) z)]) ∧ Below w.heap.size w w' := by
 refine (play_any d hd A B C cp cq m nc cc ms w hm hg hc hnc).mono ?_
 intro e w' h
 exact ⟨h.1 k z hl.1 hl.2.1 hl.2.2, h.2.2⟩
set_option maxRecDepth 100000 in
set_option maxHeartbeats 4000000 in
theorem great09_any (A B C : Option Addr) (n q cp cq nc cc : Nat) (lp : Int) (w : World) :
 Calls Tryz.prog 12 #[.agg #[.slice A n cp, .slice B q cq, .int .i64 lp], .slice C nc cc] w fun e w' => e = .returned (.bool (decide (16 < n ∨ 64 < q ∨ 30 < nc))) ∧ Below w.heap.size w w' := by
 have X0 := hide (row_at (W := w) (g := w.heap.size) (t := 24) (vs := [.slice A n cp, .slice B q cq, .int .i64 lp]) rfl)
 obtain ⟨d0, d1, d2, d3⟩ := box3 X0.out
 go_enter Tryz.func12, Tryz.ntmps12
 by_cases h1 : 16 < n
 ·have h1i : (16 : Int) < (n : Int) := by omega
  go_wp2_with fail
  go_ret
  have hv : decide (16 < n ∨ 64 < q ∨ 30 < nc) = true := decide_eq_true (.inl h1)
  exact ⟨by first | rfl | (rw [hv]; rfl), (Below.refl _ _).alloc (Nat.le_refl _) _⟩
 ·have h1i : ¬ (16 : Int) < (n : Int) := by omega
  by_cases h2 : 64 < q
  ·have h2i : (64 : Int) < (q : Int) := by omega
   go_wp2_with fail
   go_ret
   have hv : decide (16 < n ∨ 64 < q ∨ 30 < nc) = true := decide_eq_true (.inr (.inl h2))
   exact ⟨by first | rfl | (rw [hv]; rfl), (Below.refl _ _).alloc (Nat.le_refl _) _⟩
  ·have h2i : ¬ (64 : Int) < (q : Int) := by omega
   by_cases h3 : 30 < nc
   ·have h3i : (30 : Int) < (nc : Int) := by omega
    go_wp2_with fail
    go_ret
    have hv : decide (16 < n ∨ 64 < q ∨ 30 < nc) = true := decide_eq_true (.inr (.inr h3))
    exact ⟨by first | rfl | (rw [hv]; rfl), (Below.refl _ _).alloc (Nat.le_refl _) _⟩
   ·have h3i : ¬ (30 : Int) < (nc : Int) := by omega
    go_wp2_with fail
    go_ret
    have hv : decide (16 < n ∨ 64 < q ∨ 30 < nc) = false := decide_eq_false (by omega)
    exact ⟨by first | rfl | (rw [hv]; rfl), (Below.refl _ _).alloc (Nat.le_refl _) _⟩
end Go.Proofs.YtlffopdoeobgaaaGreatDoor
end
section
namespace Go.Proofs.YtlffopdoeobgaaaGreatDoor
open Go Go.RowKit
attribute [local go_sem ↓] Go.wp_at_zero Go.wp_at_succ
def lon : Pl.Dg := ⟨[], [], 1⟩
theorem lon_ok : Pl.Valid lon := valid_empty (by omega)
theorem lon_at (w : World) (A B : Option Addr) : DgAt w A B lon := ⟨⟨rfl, fun h => absurd h (by decide)⟩, ⟨rfl, fun h => absurd h (by decide)⟩⟩
theorem isort_lone (A : Option Addr) (c : Nat) (w : World) :
 Calls Tryz.prog 166 #[.slice A 0 c, .int .i64 0, .int .i64 0, .func (.func 125) #[] #[]] w fun e w' => (∃ v, e = .returned v) ∧ w' = w := by
 go_enter Tryz.func166, Tryz.ntmps166
 go_wp2_with fail
 go_loopg [8, 9] 0 (fun g s8 s9 wx => s8 = .int .i64 1 ∧ wx = w)
 case atStart => exact ⟨rfl, rfl⟩
 case round =>
  obtain ⟨rfl, rfl⟩ := hrel
  go_wp2
  exact bodyPost_end (by simp [results, Tryz.results166, go_sem]; rfl) rfl ⟨⟨_, rfl⟩, rfl⟩
theorem stable_lone (A : Option Addr) (c : Nat) (w : World) :
 Calls Tryz.prog 148 #[.slice A 0 c, .int .i64 0, .func (.func 125) #[] #[]] w fun e w' => (∃ v, e = .returned v) ∧ w' = w := by
 go_enter Tryz.func148, Tryz.ntmps148
 go_wp2_with fail
 go_loopg [7, 8] 0 (fun g s7 s8 wx => s7 = .int .i64 0 ∧ s8 = .int .i64 20 ∧ wx = w)
 case atStart => exact ⟨rfl, rfl, rfl⟩
 case round =>
  obtain ⟨rfl, rfl, rfl⟩ := hrel
  go_wp2_with fail
  refine (isort_lone A c _).mono ?_
  rintro e w1 ⟨⟨v, rfl⟩, rfl⟩
  go_wp2_with fail
  go_loopg [6, 7, 8] 0 (fun g s6 s7 s8 wx => s6 = .int .i64 20 ∧ wx = w1)
  case atStart => exact ⟨rfl, rfl⟩
  case round =>
   obtain ⟨rfl, rfl⟩ := hrel
   go_wp2
   exact bodyPost_end (by simp [results, Tryz.results148, go_sem]; rfl) rfl ⟨⟨_, rfl⟩, rfl⟩
theorem sort_lone (A : Option Addr) (c : Nat) (w : World) :
 Calls Tryz.prog 124 #[.slice A 0 c, .func (.func 125) #[] #[]] w fun e w' => (∃ v, e = .returned v) ∧ w' = w := by
 go_enter Tryz.func124, Tryz.ntmps124
 go_wp2_with fail
 refine (stable_lone A c _).mono ?_
 rintro e w1 ⟨⟨v, rfl⟩, rfl⟩
 go_wp2
 exact bodyPost_end (by simp [results, Tryz.results124, go_sem]; rfl) rfl ⟨⟨_, rfl⟩, rfl⟩
theorem pieces_lone (A B : Option Addr) (cp cq : Nat) (w : World) :
 Calls Tryz.prog 74 #[.agg #[.slice A 0 cp, .slice B 0 cq, .int .i64 1]] w fun e w' => e = .returned (.slice none 0 0) ∧ Below w.heap.size w w' := by
 have X0 := hide (row_at (W := w) (g := w.heap.size) (t := 24) (vs := [.slice A 0 cp, .slice B 0 cq, .int .i64 1]) rfl)
 have B0 := hide (show Below w.heap.size w (w.alloc (.cells #[.slice A 0 cp, .slice B 0 cq, .int .i64 1] 24)) from (Below.refl _ _).alloc (Nat.le_refl _) _)
 go_enter Tryz.func74, Tryz.ntmps74
 obtain ⟨d0, d1, d2, d3⟩ := box3 X0.out
 go_wp2_with fail
 refine (graph_any lon lon_ok A B cp cq 0 _ rfl (lon_at _ _ _)).mono ?_
 rintro e w1 ⟨AG, cG, P, ls, vs, rfl, hP, _, _, _, _, hb1, _⟩
 obtain rfl : P = 0 := Nat.le_zero.1 hP
 have B1 := hide (B0.out.trans (hb1.mono B0.out.size))
 clear hP hb1 X0 B0 d0 d1 d2 d3
 go_wp2_with fail
 go_loopg [3, 5, 6, 8, 9, 10, 11, 15, 34, 40] 0 (fun g s3 s5 s6 s8 s9 s10 s11 s15 s34 s40 wx => s3 = .slice none 0 0 ∧ s15 = .int .i64 0 ∧ wx = w1)
 case atStart => exact ⟨rfl, rfl, rfl⟩
 case round =>
  obtain ⟨rfl, rfl, rfl⟩ := hrel
  go_wp2_with fail
  refine (sort_lone none 0 _).mono ?_
  rintro e w2 ⟨⟨v, rfl⟩, rfl⟩
  go_wp2
  go_ret
  exact ⟨rfl, B1.out⟩
theorem code_lone (A B : Option Addr) (cp cq : Nat) (w : World) :
 Calls Tryz.prog 40 #[.agg #[.slice A 0 cp, .slice B 0 cq, .int .i64 1]] w fun e w' => ∃ g, e = .returned (.slice (some ⟨g, 0, none⟩) 2 2) ∧ Row w' g 3 [.int .i64 1, .int .i64 0] ∧ Below w.heap.size w w' := by
 have X0 := hide (row_at (W := w) (g := w.heap.size) (t := 24) (vs := [.slice A 0 cp, .slice B 0 cq, .int .i64 1]) rfl)
 have B0 := hide (show Below w.heap.size w (w.alloc (.cells #[.slice A 0 cp, .slice B 0 cq, .int .i64 1] 24)) from (Below.refl _ _).alloc (Nat.le_refl _) _)
 go_enter Tryz.func40, Tryz.ntmps40
 obtain ⟨d0, d1, d2, d3⟩ := box3 X0.out
 go_wp2_with fail
 refine (valid_yes lon lon_ok A B cp cq 0 _ rfl (lon_at _ _ _)).mono ?_
 rintro e w1 ⟨rfl, hb1⟩
 have X1 := hide (X0.out.below hb1)
 have B1 := hide (B0.out.trans (hb1.mono B0.out.size))
 clear hb1 X0 B0 d0 d1 d2 d3
 obtain ⟨d0, d1, d2, d3⟩ := box3 X1.out
 go_wp2_with fail
 refine (pieces_lone A B cp cq _).mono ?_
 rintro e w2 ⟨rfl, hb2⟩
 have X2 := hide (X1.out.below hb2)
 have B2 := hide (B1.out.trans (hb2.mono B1.out.size))
 clear hb2 X1 B1 d0 d1 d2 d3
 obtain ⟨d0, d1, d2, d3⟩ := box3 X2.out
 have R3 := hide (row_at (W := w2) (g := w2.heap.size) (t := 3) (vs := [.int .i64 1, .int .i64 0]) rfl)
 have B3 := hide (B2.out.alloc B2.out.size (.cells #[.int .i64 1, .int .i64 0] 3))
 go_wp2_with fail
 obtain ⟨W3, hW3⟩ : ∃ W, W = w2.alloc (.cells #[.int .i64 1, .int .i64 0] 3) := ⟨_, rfl⟩
 rw [← hW3]
 have hR : Row W3 w2.heap.size 3 [.int .i64 1, .int .i64 0] := by rw [hW3]; exact R3.out
 have hB : Below w.heap.size w W3 := by rw [hW3]; exact B3.out
 have R4 := hide hR
 have B4 := hide hB
 clear hW3 hR hB R3 B3 d0 d1 d2 d3
 go_loopg [4, 6, 19] 0 (fun g s4 s6 s19 wx => s4 = .slice (some ⟨w2.heap.size, 0, none⟩) 2 2 ∧ s19 = .int .i64 0 ∧ wx = W3)
 case atStart => exact ⟨rfl, rfl, rfl⟩
 case round =>
  obtain ⟨rfl, rfl, rfl⟩ := hrel
  go_wp2
  go_ret
  exact ⟨_, rfl, R4.out, B4.out⟩
theorem eq_lone {w : World} {g h : Nat} (hg : Row w g 3 [.int .i64 1, .int .i64 0]) (hh : Row w h 3 [.int .i64 1, .int .i64 0]) :
 Calls Tryz.prog 39 #[.slice (some ⟨g, 0, none⟩) 2 2, .slice (some ⟨h, 0, none⟩) 2 2] w fun r w' => r = .returned (.bool true) ∧ Below w.heap.size w w' := by
 have key : ∀ {k : Nat}, Row w k 3 [.int .i64 1, .int .i64 0] → ∀ j, j < 2 → w.cell? ⟨k, 0 + j, none⟩ = some (.int .i64 ([1, 0].getD j 0)) := fun {k} hk j hj => by
  match j, hj with
  | 0, _ => exact hk.cell (i := 0) (by decide)
  | 1, _ => exact hk.cell (i := 1) (by decide)
 refine (Tryz.slices_Equal_int g 0 2 2 h 0 2 2 [1, 0] [1, 0] w (by decide) (by decide) (by decide) (by decide) (key hg) (key hh)).mono ?_
 rintro r w' ⟨rfl, q, rfl⟩
 exact ⟨rfl, below_drewN (Below.refl _ _) q⟩
set_option maxRecDepth 100000 in
set_option maxHeartbeats 4000000 in
theorem same_lone (A B C D : Option Addr) (cp cq cp' cq' : Nat) (w : World) :
 Calls Tryz.prog 19 #[.agg #[.slice A 0 cp, .slice B 0 cq, .int .i64 1], .agg #[.slice C 0 cp', .slice D 0 cq', .int .i64 1]] w fun e w' => e = .returned (.bool true) ∧ Below w.heap.size w w' := by
 have X1 := hide ((row_at (W := w) (g := w.heap.size) (t := 24) (vs := [.slice A 0 cp, .slice B 0 cq, .int .i64 1]) rfl).alloc (.cells #[.slice C 0 cp', .slice D 0 cq', .int .i64 1] 24))
 have Y1 := hide (row_at (W := w.alloc (.cells #[.slice A 0 cp, .slice B 0 cq, .int .i64 1] 24)) (g := w.heap.size + 1) (t := 24) (vs := [.slice C 0 cp', .slice D 0 cq', .int .i64 1]) (by simp))
 have B0 := hide (show Below w.heap.size w ((w.alloc (.cells #[.slice A 0 cp, .slice B 0 cq, .int .i64 1] 24)).alloc (.cells #[.slice C 0 cp', .slice D 0 cq', .int .i64 1] 24)) from ((Below.refl _ _).alloc (Nat.le_refl _) _).alloc (by simp) _)
 go_enter Tryz.func19, Tryz.ntmps19
 obtain ⟨d0, d1, d2, d3⟩ := box3 X1.out
 obtain ⟨e0, e1, e2, e3⟩ := box3 Y1.out
 go_wp2_with fail
 refine (valid_yes lon lon_ok A B cp cq 0 _ rfl (lon_at _ _ _)).mono ?_
 rintro e w1 ⟨rfl, hb1⟩
 have X2 := hide (X1.out.below hb1)
 have Y2 := hide (Y1.out.below hb1)
 have B1 := hide (B0.out.trans (hb1.mono B0.out.size))
 clear X1 Y1 B0 hb1 d0 d1 d2 d3 e0 e1 e2 e3
 obtain ⟨d0, d1, d2, d3⟩ := box3 X2.out
 obtain ⟨e0, e1, e2, e3⟩ := box3 Y2.out
 go_wp2_with fail
 refine (valid_yes lon lon_ok C D cp' cq' 0 _ rfl (lon_at _ _ _)).mono ?_
 rintro e w2 ⟨rfl, hb2⟩
 have X3 := hide (X2.out.below hb2)
 have Y3 := hide (Y2.out.below hb2)
 have B2 := hide (B1.out.trans (hb2.mono B1.out.size))
 clear X2 Y2 B1 hb2 d0 d1 d2 d3 e0 e1 e2 e3
 obtain ⟨d0, d1, d2, d3⟩ := box3 X3.out
 obtain ⟨e0, e1, e2, e3⟩ := box3 Y3.out
 go_upto_region 3 with fail
 have BD := hide (show Below w.heap.size w w2.drew from B2.out.drew)
 have XD := hide (X3.out.below (Below.refl w2.heap.size w2).drew)
 have YD := hide (Y3.out.below (Below.refl w2.heap.size w2).drew)
 go_region_with (first
  | (go_at_call 40
     have hx := hba
     refine (code_lone C D cp' cq' _).mono ?_
     rintro e wb ⟨gb, rfl, rb, hbc⟩)
  | (go_at_call 40
     have hx := hbb
     refine (code_lone A B cp cq _).mono ?_
     rintro e wa ⟨ga, rfl, ra, hbc⟩)
  | (go_at_call 40
     refine (code_lone A B cp cq _).mono ?_
     rintro e wa ⟨ga, rfl, ra, hba⟩
     obtain ⟨k0, k1, k2, k3⟩ := box3 (YD.out.below hba))
  | (go_at_call 40
     refine (code_lone C D cp' cq' _).mono ?_
     rintro e wb ⟨gb, rfl, rb, hbb⟩
     obtain ⟨k0, k1, k2, k3⟩ := box3 (XD.out.below hbb))
  | (go_at_call 39
     have hx := hba
     refine (eq_lone (ra.below hbc) rb).mono ?_
     rintro e w9 ⟨rfl, hb9⟩
     have HF := hide (BD.out.trans ((hx.trans ((hbc.trans (hb9.mono hbc.size)).mono hx.size)).mono BD.out.size)))
  | (go_at_call 39
     have hx := hbb
     refine (eq_lone ra (rb.below hbc)).mono ?_
     rintro e w9 ⟨rfl, hb9⟩
     have HF := hide (BD.out.trans ((hx.trans ((hbc.trans (hb9.mono hbc.size)).mono hx.size)).mono BD.out.size))))
 all_goals (go_wp2_with fail)
 all_goals (go_ret; exact ⟨rfl, HF.out⟩)
end Go.Proofs.YtlffopdoeobgaaaGreatDoor
end
