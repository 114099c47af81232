/-
 The texts Zb, Tb, Ua, Vc, Vd, Ve, Vk, Bf, Bp, Open, Xn, Fcl, Mvp, Na in one.
-/
import Derived.Test.YtlffopdoeobgaaaGreatDoorK19
import Derived.Test.YtlffopdoeobgaaaGreatDoorK16
import Derived.Laws.Slices
import Derived.Test.YtlffopdoeobgaaaGreatDoorK02
import Derived.Test.YtlffopdoeobgaaaGreatDoorShelf
import Derived.Test.YtlffopdoeobgaaaGreatDoorK05
import Derived.Test.YtlffopdoeobgaaaGreatDoorK04
import Derived.Deep.DeepCutAuto
import Derived.RegionTactic
import Derived.Test.YtlffopdoeobgaaaGreatDoorK06
import Derived.Test.YtlffopdoeobgaaaGreatDoorK07
import Derived.Test.YtlffopdoeobgaaaGreatDoorK09
import Derived.Test.YtlffopdoeobgaaaGreatDoorK12
import Derived.Deep.CutRange
import Derived.Test.YtlffopdoeobgaaaGreatDoorK11
import Derived.Test.YtlffopdoeobgaaaGreatDoorK03
import Derived.Test.YtlffopdoeobgaaaGreatDoorK15
import Derived.Lib.SmallJoins
import Derived.Lib.AtoiAllCases
import Derived.Test.YtlffopdoeobgaaaGreatDoorK00
import Derived.Test.YtlffopdoeobgaaaGreatDoorRows
import Derived.ProofKit
import Derived.OpenShut
import Derived.Deep.Slices
import Derived.Deep.Fields
import Derived.ChangeSame
import Derived.ChangeSlices
import Derived.Deep.Strs
set_option linter.unusedVariables false
set_option linter.unusedSimpArgs false
section
namespace Go.Proofs.YtlffopdoeobgaaaGreatDoor
open Go Go.RowKit
theorem fwd_nat (d : Pl.Dg) (x : Nat) : fwd d (x : Int) = Pl.out d x := by
 unfold fwd
 rw [if_neg (by omega), if_pos (by omega), Int.toNat_natCast]
theorem plc_pp (n s t : Nat) (h : s ≤ 4) : plc n s t = Pl.pp n (4 - s) t := by unfold plc Pl.pp; omega
theorem unS_le (d : Pl.Dg) (x y : Int) (ov : Bool) : un0 d x y ov ≤ 4 ∧ un1 d x y ov ≤ 4 := by
 unfold un0 un1 lnS th0 th1
 cases ov <;> cases fwd d x <;> cases fwd d y <;> decide
def pkF (d : Pl.Dg) (x y : Int) (ov : Bool) : Nat := 4 - un0 d x y ov
def pkG (d : Pl.Dg) (x y : Int) (ov : Bool) : Nat := 4 - un1 d x y ov
theorem pP_pp (d : Pl.Dg) (x y : Int) (ov : Bool) (t : Nat) : pP d x y ov t = Pl.pp d.n (pkF d x y ov) t := plc_pp _ _ _ (unS_le d x y ov).1
theorem pQ_pp (d : Pl.Dg) (x y : Int) (ov : Bool) (t : Nat) : pQ d x y ov t = Pl.pp (d.n + 1) (pkG d x y ov) t := plc_pp _ _ _ (unS_le d x y ov).2
theorem pk0_l0 (d : Pl.Dg) (x y : Int) (ov : Bool) : pk0 d x y ov = Pl.pkL0 d (pkF d x y ov) (pkG d x y ov) := by
 unfold pk0 Pl.pkL0
 rw [pP_pp, pQ_pp, pQ_pp, pP_pp]
 rfl
theorem app_s0 (l : List Int) (a b : Int) (c : Nat) (h : c < l.length) : (l ++ [a, b]).getD c 0 = l.getD c 0 := by
 rw [List.getD_eq_getElem?_getD, List.getD_eq_getElem?_getD, List.getElem?_append_left h]
theorem app_s1 (l : List Int) (a b : Int) : (l ++ [a, b]).getD l.length 0 = a := by
 rw [List.getD_eq_getElem?_getD, List.getElem?_append_right (Nat.le_refl _)]; simp
theorem app_s2 (l : List Int) (a b : Int) : (l ++ [a, b]).getD (l.length + 1) 0 = b := by
 rw [List.getD_eq_getElem?_getD, List.getElem?_append_right (by omega)]; simp
theorem out_pp (d : Pl.Dg) (n f t : Nat) : Pl.out d (Pl.pp n f t) = ((t + f) % 4 == 2 || ((t + f) % 4 == 1 && d.s n == 1) || ((t + f) % 4 == 3 && d.s n == -1)) := by
 unfold Pl.out
 rw [show Pl.pp n f t % 4 = (t + f) % 4 by unfold Pl.pp; omega, show Pl.pp n f t / 4 = n by unfold Pl.pp; omega]
theorem pk_pd {d : Pl.Dg} (hd : Pl.Valid d) (x y sg : Int) (ov : Bool) (hn : d.n + 2 ≤ 64) (hl : (pkL d x y sg).toNat ≤ 64) : Pl.Pd d (pkD d x y sg ov) (pkF d x y ov) (pkG d x y ov) (fwd d x) (fwd d y) := by
 have s0 : (pkD d x y sg ov).s d.n = sgn2 (un0 d x y ov) (ov0 d x y ov) := app_s1 _ _ _
 have s1 : (pkD d x y sg ov).s (d.n + 1) = sgn2 (un1 d x y ov) (ov1 d x y ov) := app_s2 _ _ _
 refine ⟨hn, by unfold Pl.Dg.n pkD; simp, hl, fun c hc => app_s0 _ _ _ _ hc, by rw [s0]; unfold sgn2; split <;> simp, by rw [s1]; unfold sgn2; split <;> simp, ?_, ?_, ?_, ?_, ?_, ?_, ?_, ?_⟩
 all_goals
  rw [out_pp]
  first
   | rw [s0]
   | rw [s1]
  try unfold pkF
  try unfold pkG
  try unfold sgn2
  try unfold un0
  try unfold un1
  try unfold ov0
  try unfold ov1
  try unfold lnS
  try unfold th0
  try unfold th1
  try unfold plc
  cases ov <;> cases fwd d x <;> cases fwd d y <;> decide
theorem pk_ok {d : Pl.Dg} (hd : Pl.Valid d) {x y sg : Int} {ov : Bool} (hin : inR d.n ⟨3, x, y, sg, ov⟩) (h : pkQ d x y sg = 0) : Pl.Valid (pkD d x y sg ov) ∧ Pl.Same d (pkD d x y sg ov) ∧
 ∃ c1 c2, Pl.Out d (pkD d x y sg ov) (pkF d x y ov) (pkG d x y ov) c1 c2 ∧ d.lp = (pkD d x y sg ov).lp + c1 + c2 := by
 have hw := hd.wf
 have hlp := hw.lp
 unfold inR at hin
 simp only at hin
 rw [if_neg (by decide), if_neg (by decide), if_neg (by decide), if_neg (by decide)] at hin
 obtain ⟨x1, x2, y1, y2, hs⟩ := hin
 unfold pkQ at h
 have hneed : ¬ d.lp < needP x y sg := fun e => by rw [if_pos e] at h; exact absurd h (by decide)
 rw [if_neg hneed] at h
 have hnear : ¬ Pl.vb (0 ≤ x ∧ 0 ≤ y ∧ x ≠ y ∧ ¬ nearP d x.toNat y.toNat) = true := fun e => by rw [if_pos e] at h; exact absurd h (by decide)
 rw [if_neg hnear] at h
 have hn : d.n + 2 ≤ 64 := Nat.le_of_not_lt fun e => by rw [if_pos e] at h; exact absurd h (by decide)
 rw [Pl.vb_iff] at hnear
 unfold needP at hneed
 have mt : (pkD d x y sg ov).mt = pkM d x y sg ov := rfl
 have lpe : (pkD d x y sg ov).lp = (pkL d x y sg).toNat := rfl
 by_cases hs0 : sg = 0
 ·subst hs0
  have eM : pkM d x y 0 ov = leadM d (leadM d (pk0 d x y ov) y (pQ d x y ov 0) (pP d x y ov 2)) x (pP d x y ov 3) (pQ d x y ov 3) := by
   unfold pkM; rw [if_neg (by simp), if_neg (by decide), if_neg (by decide)]
  rw [eM, pk0_l0, pQ_pp, pP_pp, pP_pp, pQ_pp] at mt
  by_cases hx : x < 0 <;> by_cases hy : y < 0
  ·rw [if_pos hx, if_pos ⟨hy, rfl⟩] at hneed
   have eL : (pkL d x y 0).toNat = d.lp - 2 := by unfold pkL; simp [hx, hy]; try omega
   have K := pk_pd hd x y 0 ov hn (by rw [eL]; omega)
   have mt' := mt
   unfold leadM at mt'
   rw [if_pos hx, if_pos hy] at mt'
   have Y := K.yloop hd
   have v := Y.1.xloop hd K mt'
   have O := K.out_loops hd v mt'
   exact ⟨v, O.same hd v (by rw [lpe, eL]; omega), 1, 1, O, by rw [lpe, eL]; omega⟩
  ·obtain ⟨k, rfl⟩ := Int.eq_ofNat_of_zero_le (Int.not_lt.1 hy)
   have hk : k < 4 * d.n := by omega
   rw [if_pos hx, if_neg (fun e => hy e.1)] at hneed
   have eL : (pkL d x (k : Int) 0).toNat = d.lp - 1 := by unfold pkL; simp [hx, hy]; try omega
   have K := pk_pd hd x (k : Int) 0 ov hn (by rw [eL]; omega)
   have mt' := mt
   unfold leadM at mt'
   rw [if_pos hx, if_neg hy, Int.toNat_natCast] at mt'
   obtain ⟨b, Y, _⟩ := K.yedge hd hk (fwd_nat d k).symm
   have v := Y.xloop hd K mt'
   have O := K.out_yedge hd v hk mt'
   exact ⟨v, O.same hd v (by rw [lpe, eL]; omega), 0, 1, O, by rw [lpe, eL]; omega⟩
  ·obtain ⟨k, rfl⟩ := Int.eq_ofNat_of_zero_le (Int.not_lt.1 hx)
   have hk : k < 4 * d.n := by omega
   rw [if_neg hx, if_pos ⟨hy, rfl⟩] at hneed
   have eL : (pkL d (k : Int) y 0).toNat = d.lp - 1 := by unfold pkL; simp [hx, hy]; try omega
   have K := pk_pd hd (k : Int) y 0 ov hn (by rw [eL]; omega)
   have mt' := mt
   unfold leadM at mt'
   rw [if_neg hx, if_pos hy, Int.toNat_natCast] at mt'
   have Y := K.yloop hd
   have v := Y.1.xedge0 hd K Y.2 hk (fwd_nat d k).symm mt'
   have O := K.out_xedge hd v hk mt'
   exact ⟨v, O.same hd v (by rw [lpe, eL]; omega), 1, 0, O, by rw [lpe, eL]; omega⟩
  ·obtain ⟨k, rfl⟩ := Int.eq_ofNat_of_zero_le (Int.not_lt.1 hx)
   obtain ⟨j, rfl⟩ := Int.eq_ofNat_of_zero_le (Int.not_lt.1 hy)
   have hk : k < 4 * d.n := by omega
   have hj : j < 4 * d.n := by omega
   have hne : (k : Int) ≠ (j : Int) := fun e => by rw [if_neg (fun n => n e), if_neg hx] at hs; omega
   have hkj : k ≠ j := fun e => hne (by rw [e])
   have near : nearP d k j := Classical.byContradiction fun e => hnear ⟨by omega, by omega, hne, by rw [Int.toNat_natCast, Int.toNat_natCast]; exact e⟩
   have eL : (pkL d (k : Int) (j : Int) 0).toNat = d.lp := by unfold pkL; simp [hx, hy]
   have K := pk_pd hd (k : Int) (j : Int) 0 ov hn (by rw [eL]; omega)
   have mt' := mt
   unfold leadM at mt'
   rw [if_neg hx, if_neg hy, Int.toNat_natCast, Int.toNat_natCast] at mt'
   have v := K.edges hd hk hj (fwd_nat d k).symm (fwd_nat d j).symm hkj near.2 near.1 mt'
   have O := K.out_edges hd v hk hj hkj near.2 mt'
   exact ⟨v, O.same hd v (by rw [lpe, eL]; omega), 0, 0, O, by rw [lpe, eL]; omega⟩
 ·have hxy : x = y := Classical.byContradiction fun e => hs0 (by rw [if_pos e] at hs; exact hs)
  subst hxy
  rw [if_neg (by simp)] at hs
  by_cases hx : x < 0
  ·rw [if_pos hx] at hs
   have eM : pkM d x x sg ov = jn (jn (pk0 d x x ov) (pQ d x x ov 3) (pQ d x x ov 0)) (pP d x x ov 2) (pP d x x ov 3) := by unfold pkM; rw [if_pos ⟨hs0, hx⟩]
   rw [eM, pk0_l0, pQ_pp, pQ_pp, pP_pp, pP_pp] at mt
   rw [if_pos hx, if_neg (fun e => hs0 e.2)] at hneed
   have eL : (pkL d x x sg).toNat = d.lp - 1 := by unfold pkL; rw [if_pos ⟨hs0, hx⟩]; omega
   have K := pk_pd hd x x sg ov hn (by rw [eL]; omega)
   have v := K.self0 hd mt
   have O := K.out_self0 hd v mt
   exact ⟨v, O.same hd v (by rw [lpe, eL]; omega), 0, 1, O, by rw [lpe, eL]; omega⟩
  ·rw [if_neg hx] at hs
   obtain ⟨k, rfl⟩ := Int.eq_ofNat_of_zero_le (Int.not_lt.1 hx)
   have hk : k < 4 * d.n := by omega
   have eL : (pkL d (k : Int) (k : Int) sg).toNat = d.lp := by unfold pkL; rw [if_neg (fun e => hx e.2), if_neg hs0]; omega
   have K := pk_pd hd (k : Int) (k : Int) sg ov hn (by rw [eL]; omega)
   rcases hs with rfl | rfl
   ·have eM : pkM d (k : Int) (k : Int) 1 ov = jn (jn (jn (pk0 d (k : Int) (k : Int) ov) k (pP d (k : Int) (k : Int) ov 3)) (pQ d (k : Int) (k : Int) ov 3) (pQ d (k : Int) (k : Int) ov 0)) (pP d (k : Int) (k : Int) ov 2) (d.m k) := by
     unfold pkM; rw [if_neg (fun e => hx e.2), if_pos rfl, Int.toNat_natCast]
    rw [eM, pk0_l0, pQ_pp, pQ_pp, pP_pp, pP_pp] at mt
    have v := K.self1 hd hk (fwd_nat d k).symm mt
    have O := K.out_self1 hd v hk mt
    exact ⟨v, O.same hd v (by rw [lpe, eL]; omega), 0, 0, O, by rw [lpe, eL]; omega⟩
   ·have eM : pkM d (k : Int) (k : Int) (-1) ov = jn (jn (jn (pk0 d (k : Int) (k : Int) ov) k (pQ d (k : Int) (k : Int) ov 0)) (pP d (k : Int) (k : Int) ov 2) (pP d (k : Int) (k : Int) ov 3)) (pQ d (k : Int) (k : Int) ov 3) (d.m k) := by
     unfold pkM; rw [if_neg (fun e => hx e.2), if_neg (by decide), if_pos rfl, Int.toNat_natCast]
    rw [eM, pk0_l0, pQ_pp, pQ_pp, pP_pp, pP_pp] at mt
    have v := K.self2 hd hk (fwd_nat d k).symm mt
    have O := K.out_self2 hd v hk mt
    exact ⟨v, O.same hd v (by rw [lpe, eL]; omega), 0, 0, O, by rw [lpe, eL]; omega⟩
theorem ap_ok {d : Pl.Dg} (hd : Pl.Valid d) {m : Mv} (h : apC d m = 0) : Pl.Valid (apD d m) ∧ Pl.Same d (apD d m) := by
 obtain ⟨hk, hin, hc⟩ := apC_zero h
 obtain ⟨k, x, y, s, o⟩ := m
 simp only at hk hc
 have hk5 : k = 1 ∨ k = 2 ∨ k = 3 ∨ k = 4 ∨ k = 5 := by omega
 rcases hk5 with rfl | rfl | rfl | rfl | rfl
 ·have hb : (-1 ≤ x ∧ x < 4 * d.n) ∧ (s = 1 ∨ s = -1) := by unfold inR at hin; simp at hin; exact ⟨⟨hin.1, hin.2.1⟩, hin.2.2.2⟩
  exact crl_ok hd hb.1 hb.2 hc
 ·obtain ⟨c, rfl⟩ := Int.eq_ofNat_of_zero_le (show 0 ≤ x by unfold inR at hin; simp at hin; omega)
  have hcn : c < d.n := by unfold inR at hin; simp at hin; omega
  exact unD_ok hd hcn hc
 ·have := pk_ok hd hin hc
  exact ⟨this.1, this.2.1⟩
 ·obtain ⟨a, rfl⟩ := Int.eq_ofNat_of_zero_le (show 0 ≤ x by unfold inR at hin; simp at hin; omega)
  obtain ⟨b, rfl⟩ := Int.eq_ofNat_of_zero_le (show 0 ≤ y by unfold inR at hin; simp at hin; omega)
  have hab : a < b ∧ b < d.n := by unfold inR at hin; simp at hin; omega
  exact unpD_ok hd hab.1 hab.2 hc
 ·obtain ⟨c, rfl⟩ := Int.eq_ofNat_of_zero_le (show 0 ≤ x by unfold inR at hin; simp at hin; omega)
  have hcn : c < 4 * d.n := by unfold inR at hin; simp at hin; omega
  have hc' : sldC d c = 0 := hc
  have ht : isT d c := Classical.byContradiction fun e => by unfold sldC at hc'; rw [if_neg e] at hc'; exact absurd hc' (by decide)
  exact sldD_ok hd hcn ht.1
end Go.Proofs.YtlffopdoeobgaaaGreatDoor
end
section
namespace Go.Proofs.YtlffopdoeobgaaaGreatDoor
open Go Go.RowKit
attribute [local go_sem ↓] Go.wp_at_zero Go.wp_at_succ
theorem apply_n (r : Pl.Dg) (hr : Pl.Valid r) (A B : Option Addr) (n cp cq m lp : Nat) (k x y s : Int) (o : Bool) (w : World) (hn : n = r.n) (hm : m = 4 * r.n) (hl : lp = r.lp) (hg : DgAt w A B r) :
 Calls Tryz.prog 22 #[.agg #[.slice A n cp, .slice B m cq, .int .i64 (lp : Int)], .agg #[.int .i64 k, .int .i64 x, .int .i64 y, .int .i64 s, .bool o]] w (ResC (apC r ⟨k, x, y, s, o⟩) (apD r ⟨k, x, y, s, o⟩) (apI r ⟨k, x, y, s, o⟩) w) := by
 subst hn
 subst hl
 exact apply_any r hr A B cp cq m ⟨k, x, y, s, o⟩ w hm hg
section
variable {w W W' : World} {ga k : Nat} {most : Int} {d r : Pl.Dg} {cs : List Int} {l : List Mv} {v : Value} {A9 B9 : Option Addr} {n c8 m c9 lp : Nat}
end
theorem own_row_neM {W : World} {base b n : Nat} {t : TypeId} {v : Value} {xs vs : List Value} (h : W.ownsRow base 36 5 v n xs) (hr : Row W b t vs) (ht : 36 ≠ t) : some b ≠ v.ownBlock := by
 intro e
 obtain ⟨cs, fr, h3⟩ := ownsRow_block h b e.symm
 rw [hr] at h3
 injection h3 with h3
 injection h3 with _ h4
 exact ht h4.symm
end Go.Proofs.YtlffopdoeobgaaaGreatDoor
end
section
namespace Go.Proofs.YtlffopdoeobgaaaGreatDoor
open Go Go.RowKit
attribute [local go_sem ↓] Go.wp_at_zero Go.wp_at_succ
theorem elemI : Tryz.prog.underlying 22 = some (.slice (Tryz.prog.elem 22)) := by kernel_rfl
theorem sizeI (W : World) : (sizeOf (Tryz.prog.elem 22)).run Tryz.prog W = .ok 1 W := by kernel_rfl
theorem cut_hi {w : World} {A : Option Addr} {n c : Nat} {xs : List Int} (h : IntsAt w A n xs) {k : Nat} (hk : k ≤ n) (hc : n ≤ c) :
 ∃ A1 : Option Addr, IntsAt w A1 (n - k) (xs.drop k) ∧ ∀ W : World, (Instr.slice 22 (.slice A n c) (some (.int .i64 (k : Int))) none none).run Tryz.prog W = .ok (.slice A1 (n - k) (c - k)) W := by
 have hl := h.len
 refine ⟨if c = k then A else A.map (·.add (k * 1)), ⟨by simp; omega, fun hp => ?_⟩, fun W => ?_⟩
 ·obtain ⟨b, o, rfl, hx⟩ := h.2 (by omega)
  rw [if_neg (by omega)]
  refine ⟨b, o + k, by simp [Addr.add_lit], fun j u hu => ?_⟩
  rw [List.map_drop, List.getElem?_drop] at hu
  rw [Nat.add_assoc]
  exact hx _ u hu
 ·rw [run_slice_l W 22 A n c elemI .i64 (k : Int) (by omega) (by omega), sizeI]
  rfl
section
variable {P : Program} (w : World)
end
theorem movesV_own {w : World} {base n : Nat} {A : Option Addr} {c : Nat} {ms : List Mv} (h : w.ownsRow base 36 5 (.slice A n c) n (mvs ms)) (hn : n = ms.length) : MovesV w A n ms := by
 subst hn
 obtain ⟨A', c', e, h2⟩ := MovesAt.mv ⟨base, h⟩
 injection e with e1
 subst e1
 exact h2
end Go.Proofs.YtlffopdoeobgaaaGreatDoor
end
section
namespace Go.Proofs.YtlffopdoeobgaaaGreatDoor
open Go Go.RowKit
attribute [local go_sem ↓] Go.wp_at_zero Go.wp_at_succ
theorem own_cap {W : World} {base n c : Nat} {e : TypeId} {A : Option Addr} {xs : List Value} (h : W.ownsRow base e 1 (.slice A n c) n xs) : n ≤ c := by
 rcases h.2 with ⟨h1, h2⟩ | ⟨g, cap, cur, h1, _, _, h4, _⟩
 ·omega
 ·injection h1 with _ _ h1
  omega
end Go.Proofs.YtlffopdoeobgaaaGreatDoor
end
section
namespace Go.Proofs.YtlffopdoeobgaaaGreatDoor
open Go Go.RowKit
def IntT (W : World) (v : Value) (xs : List Int) : Prop := ∃ A c, v = .slice A xs.length c ∧ xs.length ≤ c ∧ RowT W 3 A xs.length (xs.map (.int .i64))
structure PcV (W : World) (vC vO : Value) (x : Int) (p : Pl.Pc) : Prop where
 c : IntT W vC p.code
 o : IntT W vO (nats p.order)
 r : x = p.roots
section
variable {W W' : World} {vC vO : Value} {x : Int} {p : Pl.Pc}
end
end Go.Proofs.YtlffopdoeobgaaaGreatDoor
end
section
namespace Go.Proofs.YtlffopdoeobgaaaGreatDoor
open Go Go.RowKit
attribute [local go_sem ↓] Go.wp_at_zero Go.wp_at_succ
theorem own_setNe {W : World} {base b n s : Nat} {e : TypeId} {v : Value} {xs : List Value} (h : W.ownsRow base e s v n xs) (hne : v.ownBlock ≠ some b) (o : Nat) (u : Value) : (W.setCell ⟨b, o, none⟩ u).ownsRow base e s v n xs := by
 refine ⟨h.1, ?_⟩
 rcases h.2 with hz | ⟨g, cap, cur, r1, r2, r3, r4⟩
 ·exact .inl hz
 ·refine .inr ⟨g, cap, cur, r1, r2, ?_, r4⟩
  have hgb : g ≠ b := fun e => hne (by rw [r1, e]; rfl)
  exact (Below.heap_setCell W ⟨b, o, none⟩ u g hgb).trans r3
def PcsV (W : World) : List Value → List Pl.Pc → Prop
 | [], [] => True
 | vC :: vO :: .int .i64 x :: r, p :: ps => PcV W vC vO x p ∧ PcsV W r ps
 | _, _ => False
section
variable {w W W' : World} {d : Pl.Dg} {ls : List Int} {P : Nat} {A : Option Addr} {vs dv : List Value} {j : Nat} {vL : Value} {cs : List Value} {ps : List Pl.Pc}
end
end Go.Proofs.YtlffopdoeobgaaaGreatDoor
end
section
namespace Go.Proofs.YtlffopdoeobgaaaGreatDoor
open Go Go.RowKit
attribute [local go_sem ↓] Go.wp_at_zero Go.wp_at_succ
structure SI (base : Nat) (w : World) (A : Option Addr) (n c : Nat) (cs : List Value) (ps : List Pl.Pc) (W : World) : Prop where
 own : W.ownsRow base 99 3 (.slice A n c) n cs
 pv : PcsV W cs ps
 len : ps.length = n
 bel : Below base w W
 big : base ≤ W.heap.size
end Go.Proofs.YtlffopdoeobgaaaGreatDoor
end
section
namespace Go.Proofs.YtlffopdoeobgaaaGreatDoor
open Go Go.RowKit
attribute [local go_sem ↓] Go.wp_at_zero Go.wp_at_succ
theorem below_itoa (w : World) (k : Nat) (os : Array Obj) : Below w.heap.size w («Sort».grow (w.drewN k) os) := by
 refine ⟨rfl, rfl, rfl, ?_, fun j hj => ?_⟩
 ·show w.heap.size ≤ (w.heap ++ os).size
  rw [Array.size_append]; omega
 ·show (w.heap ++ os)[j]? = w.heap[j]?
  rw [Array.getElem?_append_left hj]
structure GV (W : World) : Prop where
 m : ∃ m, W.cell? ⟨0, 0, none⟩ = some (.int .i64 m)
 tab : Lib.TabIs Tryz.prog W "internal/strconv.uint64pow10" .u64 Lib.pow10Tab
 e1 : ∃ ev, W.cell? ⟨1, 0, none⟩ = some ev ∧ (ev = .nilIface ∨ ∃ te pe, ev = .iface te pe)
 e2 : ∃ ev, W.cell? ⟨2, 0, none⟩ = some ev ∧ (ev = .nilIface ∨ ∃ te pe, ev = .iface te pe)
theorem GV.below {W W' : World} (h : GV W) (hb : Below W.heap.size W W') : GV W' := by
 obtain ⟨m, hm⟩ := h.m
 obtain ⟨v1, h1, h1'⟩ := h.e1
 obtain ⟨v2, h2, h2'⟩ := h.e2
 exact ⟨⟨m, cell_below hm hb⟩, Joins.tab_stays (g := 3) (by kernel_rfl) h.tab hb (Nat.le_refl _), ⟨v1, cell_below h1 hb, h1'⟩, ⟨v2, cell_below h2 hb, h2'⟩⟩
def numV (l : List UInt8) : Int := match Lib.atoiAll l with
 | .ok v => v
 | .syntax => 0
 | .range => Lib.atoiSat l
end Go.Proofs.YtlffopdoeobgaaaGreatDoor
end
section
namespace Go.Proofs.YtlffopdoeobgaaaGreatDoor
open Go Go.RowKit
attribute [local go_sem ↓] Go.wp_at_zero Go.wp_at_succ
theorem own_shrink {W : World} {base g n c : Nat} {e : TypeId} {xs : List Value} (h : W.ownsRow base e 1 (.slice (some ⟨g, 0, none⟩) (n + 1) c) (n + 1) xs) : W.ownsRow base e 1 (.slice (some ⟨g, 0, none⟩) n c) n xs.dropLast := by
 have hl : xs.length = n + 1 := by simpa using h.1
 refine ⟨by rw [List.length_dropLast]; omega, ?_⟩
 rcases h.2 with ⟨h1, _⟩ | ⟨g', cap, cur, h1, h2, h3, h4, h5, h6, h7⟩
 ·cases h1
 ·injection h1 with e1 e2 e3
  injection e1 with e1
  injection e1 with e1
  subst e1 e3
  refine .inr ⟨g, c, cur, rfl, h2, h3, by omega, h5, h6, ?_⟩
  rw [← h7, Nat.mul_one, Nat.mul_one, List.dropLast_eq_take, List.take_take, List.length_take]
  congr 1
  have : cur.toList.length = c * 1 := by simpa using h6
  omega
theorem cut_own (g n c : Nat) (hn : n ≤ c) (hc : c ≤ maxLen) (W : World) : (Instr.slice 22 (.slice (some ⟨g, 0, none⟩) (n + 1) c) none (some (.int .i64 (n : Int))) none).run Tryz.prog W = .ok (.slice (some ⟨g, 0, none⟩) n c) W := by
 unfold maxLen at hc
 rw [run_slice_h W 22 (some ⟨g, 0, none⟩) (n + 1) c elemI .i64 (n : Int) (by omega) (by omega), sizeI]
 by_cases h0 : c = 0
 ·simp [sliced, h0]
 ·simp [sliced, h0, Addr.add]
theorem own_capI {W : World} {base n c : Nat} {e : TypeId} {A : Option Addr} {xs : List Value} (h : W.ownsRow base e 1 (.slice A n c) n xs) (hn : 0 < n) : n ≤ c ∧ c ≤ maxLen := by
 rcases h.2 with ⟨h1, h2⟩ | ⟨g', cap, cur, h1, h2, h3, h4, h5, h6, h7⟩
 ·omega
 ·injection h1 with e1 e2 e3
  subst e3
  exact ⟨h4, h5⟩
end Go.Proofs.YtlffopdoeobgaaaGreatDoor
end
section
namespace Go.Proofs.YtlffopdoeobgaaaGreatDoor
open Go.ChangeShapes Go.WideShapes Go.ChangeAt Go.RowKit Go.Deep
section
variable {H : Type} {enc : TypeId × Value → H} {P : Program} {w : World} {base : Nat} {spare : Nat → Bool} {held : Bool}
theorem post_of_below {f : Func} {s : ChangeSpec} {apart fresh handsOn again : Bool} {W W' : World} {args : Array Value} {v : Value} {ds gs : List (DataW H)} {before pa pv : List MemPlace}
 (hW : DataW.Whole enc P f.params.toList s.vars apart W args.toList ds gs before)
 (hres : ∀ (b : Nat) (sp : Nat → Bool) (hd : Bool), DataW.TrodAll enc P W' b sp hd f.resultTypes.toList (v.resultList f.resultTypes.size) (s.fn H (ds ++ gs)).results [])
 (hargs : ∀ sp : Nat → Bool, (∀ p ∈ before, sp p.block = true) → DataW.TrodAll enc P W' 0 sp true f.params.toList args.toList (s.fn H (ds ++ gs)).args pa)
 (hvars : ∀ sp : Nat → Bool, (∀ p ∈ before, sp p.block = true) → DataW.TrodVars enc P W' sp s.vars (s.fn H (ds ++ gs)).vars pv)
 (hps : before = pa ++ pv) (hb : Below W.heap.size W W')
 (hok : ∀ (j : Nat) (t : TypeId) (r : Value), f.resultTypes[j]? = some t → (v.resultList f.resultTypes.size)[j]? = some r → Value.okWide P W' .any 0 t r) :
 s.post enc P f apart fresh handsOn again W args v W' := by
 have hlt : ∀ p ∈ before, p.block < W.heap.size := fun p hp => hW.lt p hp
 have hold : ∀ p ∈ before, (fun b => decide (b < W.heap.size)) p.block = true := fun p hp => by simpa using hlt p hp
 refine ⟨ds, gs, before, [], pa, pv, hW, hres _ _ _, hargs _ hold, hvars _ hold, World.keptBut_mono (fun p hp => ⟨hp, ?_⟩) (hb.frame (· ∈ before)), fun _ => ?_⟩
 ·rw [hps, List.mem_append] at hp
  exact Or.inr hp
 ·obtain ⟨_, _, _, _, _, hz, hn⟩ := hW
  refine ⟨hok, _, _, ([] ++ pa) ++ pv, ⟨[] ++ pa, pv, trodAll_append (hargs _ (fun _ _ => rfl)) (hres _ _ _), hvars _ (fun _ _ => rfl), rfl, ?_, ?_⟩, ?_⟩
  ·intro b off hp
   have hin : MemPlace.cell b off ∈ before := by rw [hps]; simpa using hp
   rw [hb.frozen (hlt _ hin)]
   exact hz b off hin
  ·intro ha
   have := hn ha
   rw [hps] at this
   simpa using this
  ·intro p hp _
   rw [hps]
   simpa using hp
end
end Go.Proofs.YtlffopdoeobgaaaGreatDoor
end
section
namespace Go.Proofs.YtlffopdoeobgaaaGreatDoor
open Go Go.ChangeShapes Go.WideShapes Go.ChangeAt Go.RowKit Go.Deep
theorem spot_noneM {w : World} {a : Addr} {v : Value} (h : w.cell? a = some v) : a = ⟨a.block, a.off, none⟩ := by
 obtain ⟨b, o, sp⟩ := a
 cases sp with
 | none => rfl
 | some s =>
   unfold World.cell? at h
   simp only at h
   split at h
   ·simp at h
   ·cases h
theorem addr_formM {w : World} {a : Addr} {v : Value} (h : w.cell? (a.add 0) = some v) : ∃ b o, a = ⟨b, o, none⟩ := ⟨_, _, spot_noneM h⟩
section
variable {H : Type} {enc : TypeId × Value → H} {w : World} {base : Nat} {spare : Nat → Bool} {held : Bool} {fuel : Nat}
theorem ints_of_trod {v : Value} {y : DataW H × List MemPlace} (h : DataW.trod enc Tryz.prog w base spare held fuel 22 [v] = some y) : ∃ (A : Option Addr) (n c : Nat) (xs : List Int), v = .slice A n c ∧ n ≤ maxLen ∧ IntsAt w A n xs := by
 rcases open_ints Tryz.underlying22 Tryz.underlying3 (by kernel_rfl) h with ⟨h1, _⟩ | ⟨a, len, cap, zs, h1, _, hl, hm, hsl, _, hc, _⟩
 ·obtain rfl : v = .slice none 0 0 := by simpa using h1
  exact ⟨none, 0, 0, [], rfl, by unfold maxLen; omega, RowAt.nil w⟩
 ·obtain rfl : v = .slice (some a) len cap := by simpa using h1
  have hle : len ≤ zs.length := by rw [hsl]; split <;> omega
  refine ⟨some a, len, cap, zs.take len, rfl, by omega, by simp; omega, fun hn => ?_⟩
  obtain ⟨b, o, rfl⟩ := addr_formM (hc 0 (by omega))
  refine ⟨b, o, rfl, fun j u hu => ?_⟩
  rw [List.getElem?_map] at hu
  obtain ⟨s, hs, rfl⟩ := Option.map_eq_some_iff.1 hu
  have hj : j < len := by
   rcases Nat.lt_or_ge j len with h | h
   ·exact h
   ·rw [List.getElem?_eq_none (by simp; omega)] at hs; cases hs
  have := hc j (by omega)
  rw [Addr.add_lit] at this
  rw [this]
  rw [List.getElem?_take_of_lt hj] at hs
  rw [List.getD_eq_getElem?_getD, hs]
  rfl
theorem int_of_trod {v : Value} {y : DataW H × List MemPlace} (h : DataW.trod enc Tryz.prog w base spare held fuel 3 [v] = some y) : ∃ n : Int, v = .int .i64 n ∧ -9223372036854775808 ≤ n ∧ n ≤ 9223372036854775807 := by
 obtain ⟨n, h1, _, hw⟩ := DataW.trod_int Tryz.underlying3 h
 obtain rfl : v = .int .i64 n := by simpa using h1
 refine ⟨n, rfl, ?_⟩
 simp only [Lit.wf, Bool.and_eq_true, decide_eq_true_eq] at hw
 have h1 : (IntKind.i64.min : Int) = -9223372036854775808 := by rfl
 have h2 : (IntKind.i64.max : Int) = 9223372036854775807 := by rfl
 rw [h1, h2] at hw
 exact hw
theorem bool_of_trod {v : Value} {y : DataW H × List MemPlace} (h : DataW.trod enc Tryz.prog w base spare held fuel 4 [v] = some y) : ∃ b : Bool, v = .bool b := by
 obtain ⟨b, h1, _⟩ := DataW.trod_bool Tryz.underlying4 h
 exact ⟨b, by simpa using h1⟩
set_option maxRecDepth 100000 in
theorem open_dg {r : Reach} {b0 : Nat} {v : Value} {d : DataW H} {p : List MemPlace} (hval : Value.okWide Tryz.prog w r b0 24 v) (h : DataW.Trod enc Tryz.prog w base spare held 24 v d p) :
 ∃ (A B : Option Addr) (n q cp cq : Nat) (sg mt : List Int) (lp : Int), v = .agg #[.slice A n cp, .slice B q cq, .int .i64 lp] ∧ n ≤ maxLen ∧ q ≤ maxLen ∧ IntsAt w A n sg ∧ IntsAt w B q mt ∧ -9223372036854775808 ≤ lp ∧ lp ≤ 9223372036854775807 := by
 obtain ⟨cs, rfl, hsz⟩ := okWide_struct Tryz.underlying24 hval
 obtain ⟨fuel, hf⟩ := h
 obtain ⟨c0, c1, c2, rfl⟩ : ∃ c0 c1 c2, cs = #[c0, c1, c2] := by
  have h3 : cs.size = 3 := hsz.trans (by kernel_rfl)
  obtain ⟨l⟩ := cs
  match l, h3 with
  | [a, b, c], _ => exact ⟨a, b, c, rfl⟩
 have hf' : DataW.trod enc Tryz.prog w base spare held fuel 24 [c0, c1, c2] = some (d, p) := hf
 obtain ⟨xs, n', _, _, _, hxl, hfld⟩ := DataW.trod_struct Tryz.underlying24 hf'
 have c22 : Tryz.prog.cellsOf 22 = 1 := by kernel_rfl
 have c3 : Tryz.prog.cellsOf 3 = 1 := by kernel_rfl
 have g0 : DataW.trod enc Tryz.prog w base spare held n' 22 (([c0, c1, c2].drop 0).take (Tryz.prog.cellsOf 22)) = xs[0]? := hfld 0 _ rfl
 have g1 : DataW.trod enc Tryz.prog w base spare held n' 22 (([c0, c1, c2].drop 1).take (Tryz.prog.cellsOf 22)) = xs[1]? := hfld 1 _ rfl
 have g2 : DataW.trod enc Tryz.prog w base spare held n' 3 (([c0, c1, c2].drop 2).take (Tryz.prog.cellsOf 3)) = xs[2]? := hfld 2 _ rfl
 rw [c22] at g0 g1
 rw [c3] at g2
 simp only [List.drop_zero, List.drop_succ_cons, List.take_succ_cons, List.take_zero] at g0 g1 g2
 have x0 : xs[0]? = some (xs[0]'(by rw [hxl]; decide)) := List.getElem?_eq_getElem _
 have x1 : xs[1]? = some (xs[1]'(by rw [hxl]; decide)) := List.getElem?_eq_getElem _
 have x2 : xs[2]? = some (xs[2]'(by rw [hxl]; decide)) := List.getElem?_eq_getElem _
 rw [x0] at g0
 rw [x1] at g1
 rw [x2] at g2
 obtain ⟨A, n, cp, sg, rfl, hn, hs⟩ := ints_of_trod g0
 obtain ⟨B, q, cq, mt, rfl, hq, hm⟩ := ints_of_trod g1
 obtain ⟨lp, rfl, h1, h2⟩ := int_of_trod g2
 exact ⟨A, B, n, q, cp, cq, sg, mt, lp, rfl, hn, hq, hs, hm, h1, h2⟩
end
end Go.Proofs.YtlffopdoeobgaaaGreatDoor
end
section
namespace Go.Proofs.YtlffopdoeobgaaaGreatDoor.Pl
variable {N : Nat} {S : Nat → Prop} {f : Nat → Nat}
open Classical in
noncomputable def fcI (fs : List (List Nat)) (x : Nat) : Nat := if h : ∃ (i : Nat), ∃ (l : List Nat), fs[i]? = some l ∧ x ∈ l then h.choose else 0
theorem fcI_is {W : Nat → Prop} {fs : List (List Nat)} {bs : List Bool} (h : Fcs f W N N fs bs) {i x : Nat} {l : List Nat} (e : fs[i]? = some l) (hx : x ∈ l) : fcI fs x = i := by
 have hh : ∃ (i : Nat), ∃ (l : List Nat), fs[i]? = some l ∧ x ∈ l := ⟨i, l, e, hx⟩
 unfold fcI
 rw [dif_pos hh]
 obtain ⟨m, e2, h2⟩ := hh.choose_spec
 exact h.one _ _ m l x e2 e h2 hx
theorem Fcs.cls {W : Nat → Prop} (hb : Bij N S f) (hS : ∀ x, x < N → S x) {fs : List (List Nat)} {bs : List Bool} (h : Fcs f W N N fs bs) : Cls (fun x => x < N ∧ W x) (Orb f) fs.length := by
 have hin : ∀ x, x < N ∧ W x → ∃ (i : Nat) (l : List Nat), fs[i]? = some l ∧ x ∈ l := by
  intro x hx
  obtain ⟨l, h1, h2⟩ := (h.seen x hx.1).1 (h.all x hx.1 hx.2)
  obtain ⟨i, hi⟩ := List.getElem?_of_mem h1
  exact ⟨i, l, hi, h2⟩
 refine ⟨fcI fs, fun x hx => ?_, fun x y hx hy => ?_, fun i hi => ?_⟩
 ·obtain ⟨i, l, e, hm⟩ := hin x hx
  rw [fcI_is h e hm]
  exact (List.getElem?_eq_some_iff.1 e).1
 ·obtain ⟨i, l, e, hm⟩ := hin x hx
  obtain ⟨j, m, e2, hm2⟩ := hin y hy
  rw [fcI_is h e hm, fcI_is h e2 hm2]
  obtain ⟨a, p, a1, a2, a3, rfl⟩ := h.is l (List.mem_of_getElem? e)
  have ox := (mem_cyc a3).1 hm
  constructor
  ·intro ee
   subst ee
   rw [e] at e2
   injection e2 with e2
   subst e2
   have oy := (mem_cyc a3).1 hm2
   exact (hb.symm (hS a a1) ox).trans oy
  ·intro ee
   exact h.one i j _ m y e e2 ((mem_cyc a3).2 (ox.trans ee)) hm2
 ·have e : fs[i]? = some fs[i] := List.getElem?_eq_getElem hi
  obtain ⟨a, p, a1, a2, a3, e2⟩ := h.is fs[i] (List.mem_of_getElem? e)
  refine ⟨a, ⟨a1, a2⟩, fcI_is h e ?_⟩
  rw [e2]
  exact (mem_cyc a3).2 (Orb.refl _ _)
end Go.Proofs.YtlffopdoeobgaaaGreatDoor.Pl
end
section
namespace Go.Proofs.YtlffopdoeobgaaaGreatDoor.Pl
def ln1 (l : List UInt8) : List UInt8 := l.takeWhile (fun c => c != 10)
def rs1 (l : List UInt8) : List UInt8 := (l.dropWhile (fun c => c != 10)).drop 1
def fd1 (l : List UInt8) : Bool := l.any (fun c => c == 10)
theorem ln1_found {l : List UInt8} (h : fd1 l = true) : l = ln1 l ++ 10 :: rs1 l := by
 induction l with
 | nil => simp [fd1] at h
 | cons c l ih =>
   by_cases hc : c = 10
   ·subst hc
    simp [ln1, rs1]
   ·have h' : fd1 l = true := by
     unfold fd1 at h ⊢
     rw [List.any_cons] at h
     simpa [hc] using h
    have e1 : ln1 (c :: l) = c :: ln1 l := by unfold ln1; rw [List.takeWhile_cons_of_pos (by simpa using hc)]
    have e2 : rs1 (c :: l) = rs1 l := by unfold rs1; rw [List.dropWhile_cons_of_pos (by simpa using hc)]
    rw [e1, e2, List.cons_append, ← ih h']
theorem ln1_whole {l : List UInt8} (h : fd1 l = false) : ln1 l = l ∧ rs1 l = [] ∧ (10 : UInt8) ∉ l := by
 induction l with
 | nil => simp [ln1, rs1]
 | cons c l ih =>
   unfold fd1 at h
   rw [List.any_cons, Bool.or_eq_false_iff] at h
   have hc : ¬ c = 10 := by simpa using h.1
   obtain ⟨h1, h2, h3⟩ := ih h.2
   have e1 : ln1 (c :: l) = c :: ln1 l := by unfold ln1; rw [List.takeWhile_cons_of_pos (by simpa using hc)]
   have e2 : rs1 (c :: l) = rs1 l := by unfold rs1; rw [List.dropWhile_cons_of_pos (by simpa using hc)]
   refine ⟨by rw [e1, h1], by rw [e2, h2], ?_⟩
   simp only [List.mem_cons, not_or]
   exact ⟨fun e => hc e.symm, h3⟩
theorem rs1_lt {l : List UInt8} (h : fd1 l = true) : (rs1 l).length < l.length := by
 have := ln1_found h
 have h2 := congrArg List.length this
 rw [List.length_append, List.length_cons] at h2
 omega
section
variable {M : Type} (rd : List UInt8 → Option M) (ln : M → List UInt8)
def pmv : Nat → List UInt8 → Nat → List M → (Nat × Bool) ⊕ List M
 | 0, _, i, _ => .inl (i, false)
 | f + 1, l, i, acc => if l = [] then .inr acc else
     match rd (ln1 l) with
     | none => .inl (i, false)
     | some m => if fd1 l then pmv f (rs1 l) (i + 1) (acc ++ [m]) else .inl (i, true)
theorem pmv_fuel : ∀ (k j : Nat) (l : List UInt8) (i : Nat) (acc : List M), l.length < k → l.length < j → pmv rd k l i acc = pmv rd j l i acc
 | 0, _, _, _, _, h, _ => by omega
 | _ + 1, 0, _, _, _, _, h => by omega
 | k + 1, j + 1, l, i, acc, h1, h2 => by
   unfold pmv
   split
   ·rfl
   ·cases rd (ln1 l) with
    | none => rfl
    | some m =>
      dsimp only
      by_cases hf : fd1 l = true
      ·have := rs1_lt hf
       rw [if_pos hf, if_pos hf]
       exact pmv_fuel k j _ _ _ (by omega) (by omega)
      ·rw [if_neg hf, if_neg hf]
def pvA (l : List UInt8) (i : Nat) (acc : List M) : (Nat × Bool) ⊕ List M := pmv rd (l.length + 1) l i acc
variable {rd} {ln}
theorem pvA_nil (i : Nat) (acc : List M) : pvA rd [] i acc = .inr acc := rfl
theorem pvA_bad {l : List UInt8} {i : Nat} {acc : List M} (h : l ≠ []) (hr : rd (ln1 l) = none) : pvA rd l i acc = .inl (i, false) := by
 unfold pvA pmv
 rw [if_neg h, hr]
theorem pvA_end {l : List UInt8} {i : Nat} {acc : List M} {m : M} (h : l ≠ []) (hr : rd (ln1 l) = some m) (hf : fd1 l = false) : pvA rd l i acc = .inl (i, true) := by
 unfold pvA pmv
 rw [if_neg h, hr]
 simp [hf]
theorem pvA_step {l : List UInt8} {i : Nat} {acc : List M} {m : M} (hr : rd (ln1 l) = some m) (hf : fd1 l = true) : pvA rd l i acc = pvA rd (rs1 l) (i + 1) (acc ++ [m]) := by
 have h : l ≠ [] := by rintro rfl; simp [fd1] at hf
 have hl := rs1_lt hf
 unfold pvA
 rw [pmv, if_neg h, hr]
 dsimp only
 rw [if_pos hf]
 exact pmv_fuel rd _ _ _ _ _ (by omega) (by omega)
end
end Go.Proofs.YtlffopdoeobgaaaGreatDoor.Pl
end
section
namespace Go.Proofs.YtlffopdoeobgaaaGreatDoor
open Go Go.RowKit
attribute [local go_sem ↓] Go.wp_at_zero Go.wp_at_succ
structure RD (w : World) (gr gw ga gk gf gm gs : Nat) (ws : List ByteArray) (j : Nat) (ok : Bool) (mv : List Value) (W : World) : Prop where
 fr : Row W gr 36 [.int .i64 0, .int .i64 0, .int .i64 0, .int .i64 0, .bool false]
 fw : Row W gw 102 [.slice (some ⟨gs, 0, none⟩) ws.length ws.length]
 fa : Row W ga 3 [.int .i64 (j : Int)]
 fk : Row W gk 4 [.bool ok]
 ff : Row W gf 87 [.func (.func 78) #[] #[.pointer (some ⟨ga, 0, none⟩), .pointer (some ⟨gw, 0, none⟩), .pointer (some ⟨gk, 0, none⟩)]]
 fm : Row W gm 36 mv
 fs : Row W gs 9 (ws.map .string)
 nd : [gr, gw, ga, gk, gf, gm, gs].Nodup
 lo : ∀ g, g ∈ [gr, gw, ga, gk, gf, gm, gs] → w.heap.size ≤ g
 bel : Below w.heap.size w W
section
variable {w W W' : World} {gr gw ga gk gf gm gs : Nat} {ws : List ByteArray} {j : Nat} {ok : Bool} {mv : List Value}
theorem RD.below (h : RD w gr gw ga gk gf gm gs ws j ok mv W) (hb : Below W.heap.size W W') : RD w gr gw ga gk gf gm gs ws j ok mv W' :=
 ⟨h.fr.below hb, h.fw.below hb, h.fa.below hb, h.fk.below hb, h.ff.below hb, h.fm.below hb, h.fs.below hb, h.nd, h.lo, h.bel.trans (hb.mono h.bel.size)⟩
theorem RD.ne (h : RD w gr gw ga gk gf gm gs ws j ok mv W) : (gr ≠ ga ∧ gw ≠ ga ∧ gk ≠ ga ∧ gf ≠ ga ∧ gm ≠ ga ∧ gs ≠ ga) ∧ (gr ≠ gk ∧ gw ≠ gk ∧ ga ≠ gk ∧ gf ≠ gk ∧ gm ≠ gk ∧ gs ≠ gk) ∧ (gr ≠ gm ∧ gw ≠ gm ∧ ga ≠ gm ∧ gk ≠ gm ∧ gf ≠ gm ∧ gs ≠ gm) := by
 have nd := h.nd
 simp only [List.nodup_cons, List.mem_cons, not_or, List.not_mem_nil, not_false_iff, and_true, List.nodup_nil] at nd
 obtain ⟨⟨a1, a2, a3, a4, a5, a6⟩, ⟨b2, b3, b4, b5, b6⟩, ⟨c3, c4, c5, c6⟩, ⟨d4, d5, d6⟩, ⟨e5, e6⟩, f6⟩ := nd
 exact ⟨⟨a2, b2, Ne.symm c3, Ne.symm c4, Ne.symm c5, Ne.symm c6⟩, ⟨a3, b3, c3, Ne.symm d4, Ne.symm d5, Ne.symm d6⟩, ⟨a5, b5, c5, d5, e5, Ne.symm f6⟩⟩
theorem RD.setA (h : RD w gr gw ga gk gf gm gs ws j ok mv W) (i : Nat) : RD w gr gw ga gk gf gm gs ws i ok mv (W.setCell ⟨ga, 0, none⟩ (.int .i64 (i : Int))) := by
 obtain ⟨⟨a1, a2, a3, a4, a5, a6⟩, _⟩ := h.ne
 have lo := h.lo ga (by simp)
 exact ⟨h.fr.other (show _ ≠ ga from a1) _, h.fw.other (show _ ≠ ga from a2) _, h.fa.set 0 (.int .i64 (i : Int)), h.fk.other (show _ ≠ ga from a3) _, h.ff.other (show _ ≠ ga from a4) _, h.fm.other (show _ ≠ ga from a5) _, h.fs.other (show _ ≠ ga from a6) _, h.nd, h.lo, h.bel.setCell (by show _ ≤ ga; omega) _⟩
theorem RD.setK (h : RD w gr gw ga gk gf gm gs ws j ok mv W) (b : Bool) : RD w gr gw ga gk gf gm gs ws j b mv (W.setCell ⟨gk, 0, none⟩ (.bool b)) := by
 obtain ⟨_, ⟨a1, a2, a3, a4, a5, a6⟩, _⟩ := h.ne
 have lo := h.lo gk (by simp)
 exact ⟨h.fr.other (show _ ≠ gk from a1) _, h.fw.other (show _ ≠ gk from a2) _, h.fa.other (show _ ≠ gk from a3) _, h.fk.set 0 (.bool b), h.ff.other (show _ ≠ gk from a4) _, h.fm.other (show _ ≠ gk from a5) _, h.fs.other (show _ ≠ gk from a6) _, h.nd, h.lo, h.bel.setCell (by show _ ≤ gk; omega) _⟩
theorem RD.setM (h : RD w gr gw ga gk gf gm gs ws j ok mv W) (i : Nat) (v : Value) : RD w gr gw ga gk gf gm gs ws j ok (mv.set i v) (W.setCell ⟨gm, i, none⟩ v) := by
 obtain ⟨_, _, ⟨a1, a2, a3, a4, a5, a6⟩⟩ := h.ne
 have lo := h.lo gm (by simp)
 exact ⟨h.fr.other (show _ ≠ gm from a1) _, h.fw.other (show _ ≠ gm from a2) _, h.fa.other (show _ ≠ gm from a3) _, h.fk.other (show _ ≠ gm from a4) _, h.ff.other (show _ ≠ gm from a5) _, h.fm.set i v, h.fs.other (show _ ≠ gm from a6) _, h.nd, h.lo, h.bel.setCell (by show _ ≤ gm; omega) _⟩
end
def wd (ws : List ByteArray) (j : Nat) : ByteArray := ws.getD j ⟨#[]⟩
theorem row1 {W : World} {g : Nat} {t : TypeId} {a : Value} (h : Row W g t [a]) : W.cell? ⟨g, 0, none⟩ = some a ∧ ∀ o, W.frozen? ⟨g, o, none⟩ = false := ⟨h.cell (i := 0) (by simp), fun o => Row.free h o⟩
set_option maxRecDepth 100000 in
set_option maxHeartbeats 2000000 in
theorem word_any {w W : World} {gr gw ga gk gf gm gs : Nat} {ws : List ByteArray} {j : Nat} {ok : Bool} {mv : List Value} (h : RD w gr gw ga gk gf gm gs ws j ok mv W) (hj : j ≤ ws.length) (hn : ws.length ≤ 100000) :
 Calls Tryz.prog 78 #[.pointer (some ⟨ga, 0, none⟩), .pointer (some ⟨gw, 0, none⟩), .pointer (some ⟨gk, 0, none⟩)] W fun e W' => e = .returned (.string (wd ws j)) ∧ RD w gr gw ga gk gf gm gs ws (min (j + 1) ws.length) (ok && decide (j < ws.length)) mv W' := by
 have H := hide h
 obtain ⟨a0, a1⟩ := row1 h.fa
 obtain ⟨w0, w1⟩ := row1 h.fw
 obtain ⟨k0, k1⟩ := row1 h.fk
 obtain ⟨n, hnn⟩ : ∃ n, n = ws.length := ⟨_, rfl⟩
 have HN := hide hnn
 rw [← hnn] at w0 hj hn
 by_cases hk : j < n
 ·have hlt : j < ws.length := by omega
  have HE : min (j + 1) ws.length = j + 1 := by omega
  have HK : (ok && decide (j < ws.length)) = ok := by rw [decide_eq_true (by omega), Bool.and_true]
  rw [HE, HK]
  clear HE HK
  have h1 := h.setA (j + 1)
  have H1 := hide h1
  obtain ⟨b0, b1⟩ := row1 h1.fa
  obtain ⟨v0, v1⟩ := row1 h1.fw
  rw [← hnn] at v0
  have s0 := h1.fs.cell (i := j) (by rw [List.length_map]; exact hlt)
  rw [List.getElem_map] at s0
  rw [show ws[j] = wd ws j by unfold wd; rw [List.getD_eq_getElem?_getD, List.getElem?_eq_getElem hlt]; simp] at s0
  obtain ⟨x, hx⟩ : ∃ x, x = wd ws j := ⟨_, rfl⟩
  rw [← hx] at s0 ⊢
  rw [show ((j + 1 : Nat) : Int) = (j : Int) + 1 by omega] at b0 b1 v0 v1 s0
  have hki : (j : Int) < (n : Int) := by omega
  have k0' : (0 : Int) ≤ (j : Int) := by omega
  have hne : ((j : Int) == (n : Int)) = false := by rw [beq_eq_false_iff_ne]; omega
  clear h h1 hnn hx hlt
  go_enter Tryz.func78, Tryz.ntmps78
  go_wp2
  go_ret
  exact ⟨rfl, H1.out⟩
 ·have HE : min (j + 1) ws.length = j := by omega
  have HK : (ok && decide (j < ws.length)) = false := by rw [decide_eq_false (by omega), Bool.and_false]
  have HW : wd ws j = ⟨#[]⟩ := by unfold wd; rw [List.getD_eq_getElem?_getD, List.getElem?_eq_none (by omega)]; rfl
  rw [HE, HK, HW]
  clear HE HK HW
  have H1 := hide (h.setK false)
  obtain rfl : j = n := by omega
  clear h hnn
  go_enter Tryz.func78, Tryz.ntmps78
  go_wp2
  go_ret
  exact ⟨rfl, H1.out⟩
def numK (l : List UInt8) : Bool := match Lib.atoiAll l with
 | .ok _ => true
 | _ => false
set_option maxRecDepth 100000 in
set_option maxHeartbeats 2000000 in
theorem num_any {w W : World} {gr gw ga gk gf gm gs : Nat} {ws : List ByteArray} {j : Nat} {ok : Bool} {mv : List Value} (h : RD w gr gw ga gk gf gm gs ws j ok mv W) (hj : j ≤ ws.length) (hn : ws.length ≤ 100000) (hs : ∀ x, x ∈ ws → x.size ≤ 100000) (hg : GV w) :
 Calls Tryz.prog 79 #[.pointer (some ⟨gf, 0, none⟩), .pointer (some ⟨gk, 0, none⟩)] W fun e W' => e = .returned (.int .i64 (numV (wd ws j).data.toList)) ∧ RD w gr gw ga gk gf gm gs ws (min (j + 1) ws.length) ((ok && decide (j < ws.length)) && numK (wd ws j).data.toList) mv W' := by
 have H := hide h
 have HG := hide hg
 have hsz : (wd ws j).size ≤ 100000 := by
  unfold wd
  rw [List.getD_eq_getElem?_getD]
  by_cases hk : j < ws.length
  ·rw [List.getElem?_eq_getElem hk]
   exact hs _ (List.getElem_mem _)
  ·rw [List.getElem?_eq_none (by omega)]
   decide
 obtain ⟨f0, f1⟩ := row1 h.ff
 clear h hg hs
 go_enter Tryz.func79, Tryz.ntmps79
 go_wp2_with fail
 refine (word_any H.out hj hn).mono ?_
 rintro e w1 ⟨rfl, h1⟩
 have H1 := hide h1
 clear h1 f0 f1 hj
 match he : Lib.atoiAll (wd ws j).data.toList with
 | .ok v =>
   have HE := hide he
   have HN := hide (show numV (wd ws j).data.toList = v ∧ numK (wd ws j).data.toList = true by unfold numV numK; rw [he]; exact ⟨rfl, rfl⟩)
   clear he
   go_wp2_with fail
   refine (Tryz.strconv_Atoi_ok (wd ws j) (by omega) v HE.out _).mono ?_
   rintro e w2 ⟨rfl, hw⟩
   have B2 := hide (show Below w1.heap.size w1 w2 by
    rcases hw with rfl | ⟨t, rfl⟩
    ·exact Below.refl _ _
    ·exact Joins.below_bytesWorld _ _ _ _ (Nat.le_refl _))
   clear hw
   go_wp2
   go_ret
   exact ⟨by rw [HN.out.1]; rfl, by rw [HN.out.2, Bool.and_true]; exact H1.out.below B2.out⟩
 | .syntax =>
   have HE := hide he
   have HN := hide (show numV (wd ws j).data.toList = 0 ∧ numK (wd ws j).data.toList = false by unfold numV numK; rw [he]; exact ⟨rfl, rfl⟩)
   clear he
   obtain ⟨ev, h1, h2⟩ := (HG.out.below H1.out.bel).e1
   go_wp2_with fail
   refine (Tryz.strconv_Atoi_syntax (wd ws j) (by omega) HE.out ev _ h1 h2).mono ?_
   rintro e w2 ⟨N, rfl, hN, hc, hb⟩
   have H2 := hide (H1.out.below hb)
   obtain ⟨k0, k1⟩ := row1 H2.out.fk
   clear hN hc hb h1 h2
   go_wp2
   go_ret
   exact ⟨by rw [HN.out.1]; rfl, by rw [HN.out.2, Bool.and_false]; exact H2.out.setK false⟩
 | .range =>
   have HE := hide he
   have HN := hide (show numV (wd ws j).data.toList = Lib.atoiSat (wd ws j).data.toList ∧ numK (wd ws j).data.toList = false by unfold numV numK; rw [he]; exact ⟨rfl, rfl⟩)
   clear he
   obtain ⟨ev, h1, h2⟩ := (HG.out.below H1.out.bel).e2
   go_wp2_with fail
   refine (Tryz.strconv_Atoi_range (wd ws j) (by omega) HE.out ev _ h1 h2).mono ?_
   rintro e w2 ⟨N, rfl, hN, hc, hb⟩
   have H2 := hide (H1.out.below hb)
   obtain ⟨k0, k1⟩ := row1 H2.out.fk
   clear hN hc hb h1 h2
   go_wp2
   go_ret
   exact ⟨by rw [HN.out.1]; rfl, by rw [HN.out.2, Bool.and_false]; exact H2.out.setK false⟩
end Go.Proofs.YtlffopdoeobgaaaGreatDoor
end
