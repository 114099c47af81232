/-
 The texts Ry.
-/
import Derived.Test.YtobbepmlmbbamaaE07
import Derived.Test.YtobbepmlmbbamaaE10
import Derived.Test.YtobbepmlmbbamaaE12
set_option linter.unusedVariables false
set_option linter.unusedSimpArgs false
section
namespace Go.Proofs.Ytobbepmlmbbamaa
open Go.RowKit
theorem jn_sym (l:List Nat) (a b:Nat):jn l b a = jn l a b := jn_comm l a b
theorem jn_swq (l:List Nat) {a b c e:Nat} (h1:a ≠ c) (h2:a ≠ e) (h3:b ≠ c) (h4:b ≠ e):jn (jn l a b) c e = jn (jn l c e) a b := by
 unfold jn
 rw [List.set_comm _ _ h3,List.set_comm (l := l) _ _ h1,List.set_comm _ _ h4,List.set_comm _ _ h2]
def rk0 (d:Pl.Dg) (x y:Int) (ov:Bool):List Nat := jn (jn (d.mt ++ List.replicate 8 0) (pP d x y ov 1) (pQ d x y ov 1)) (pP d x y ov 0) (pQ d x y ov 2)
theorem rk0_eq (d:Pl.Dg) (x y:Int) (ov:Bool):rk0 d x y ov = pk0 d x y ov := jn_sym _ _ _
def rlead (l:List Nat) (x:Int) (i o:Nat):List Nat := if x < 0 then jn l i o else jn (jn l i x.toNat) o (l.getD x.toNat 0)
def rkM (d:Pl.Dg) (x y sg:Int) (ov:Bool):List Nat :=
 if sg = 1 ∧ 0 ≤ x then jn (jn (jn (rk0 d x y ov) (pP d x y ov 3) x.toNat) (pQ d x y ov 3) (pQ d x y ov 0)) (pP d x y ov 2) ((rk0 d x y ov).getD x.toNat 0)
 else if sg = -1 then jn (jn (jn (rk0 d x y ov) (pQ d x y ov 0) x.toNat) (pP d x y ov 2) (pP d x y ov 3)) (pQ d x y ov 3) ((rk0 d x y ov).getD x.toNat 0)
 else if sg = 1 then jn (jn (rk0 d x y ov) (pQ d x y ov 3) (pQ d x y ov 0)) (pP d x y ov 2) (pP d x y ov 3)
 else rlead (rlead (rk0 d x y ov) x (pP d x y ov 3) (pQ d x y ov 3)) y (pQ d x y ov 0) (pP d x y ov 2)
theorem un_lt (d:Pl.Dg) (x y:Int) (ov:Bool):un0 d x y ov < 4 ∧ un1 d x y ov < 4 := by
 unfold un0 un1 lnS th0 th1
 constructor <;> (repeat' split) <;> omega
theorem pP_at (d:Pl.Dg) (x y:Int) (ov:Bool) (t:Nat):4 * d.n ≤ pP d x y ov t ∧ pP d x y ov t < 4 * d.n + 4 := by
 unfold pP plc; omega
theorem pQ_at (d:Pl.Dg) (x y:Int) (ov:Bool) (t:Nat):4 * d.n + 4 ≤ pQ d x y ov t ∧ pQ d x y ov t < 4 * d.n + 8 := by
 unfold pQ plc; omega
theorem pP_ne (d:Pl.Dg) (x y:Int) (ov:Bool) {t t':Nat} (h:t < 4) (h':t' < 4) (hn:t ≠ t'):pP d x y ov t ≠ pP d x y ov t' := by
 have:=(un_lt d x y ov).1
 unfold pP plc; omega
theorem pQ_ne (d:Pl.Dg) (x y:Int) (ov:Bool) {t t':Nat} (h:t < 4) (h':t' < 4) (hn:t ≠ t'):pQ d x y ov t ≠ pQ d x y ov t' := by
 have:=(un_lt d x y ov).2
 unfold pQ plc; omega
theorem jn_get_ne {l:List Nat} {a b k:Nat} (ha:k ≠ a) (hb:k ≠ b):(jn l a b).getD k 0 = l.getD k 0 := by
 unfold jn
 rw [List.getD_eq_getElem?_getD,List.getElem?_set_ne (fun e => hb e.symm),List.getElem?_set_ne (fun e => ha e.symm),← List.getD_eq_getElem?_getD]
theorem rk0_get {d:Pl.Dg} (hd:Pl.Wf d) (x y:Int) (ov:Bool) {k:Nat} (hk:k < 4 * d.n):(rk0 d x y ov).getD k 0 = d.m k := by
 have:=pP_at d x y ov 0
 have:=pP_at d x y ov 1
 have:=pQ_at d x y ov 1
 have:=pQ_at d x y ov 2
 unfold rk0
 rw [jn_get_ne (by omega) (by omega),jn_get_ne (by omega) (by omega),← m_get0 hd hk,List.getD_eq_getElem?_getD,List.getElem?_append_left (by rw [hd.len]; exact hk),← List.getD_eq_getElem?_getD]
theorem rkM_eq {d:Pl.Dg} (hd:Pl.Wf d) {x y sg:Int} {ov:Bool} (hin:inR d.n ⟨3,x,y,sg,ov⟩) (hnr:sg = 0 → 0 ≤ x → 0 ≤ y → d.m x.toNat ≠ y.toNat):rkM d x y sg ov = pkM d x y sg ov := by
 have hi:-2 ≤ x ∧ x < 4 * d.n ∧ -2 ≤ y ∧ y < 4 * d.n ∧ (if x ≠ y then sg = 0 else if x < 0 then sg = 0 ∨ sg = 1 else sg = 1 ∨ sg = -1):=by
  have:=hin
  unfold inR at this
  simpa using this
 clear hin
 obtain ⟨h1,h2,h3,h4,h5⟩:=hi
 unfold rkM pkM
 by_cases c1:sg = 1 ∧ 0 ≤ x
 ·rw [if_pos c1,if_neg (by omega),if_pos c1.1,rk0_eq,← rk0_eq,rk0_get hd x y ov (by omega),jn_sym _ x.toNat]
 ·rw [if_neg c1]
  by_cases c2:sg = -1
  ·have hx : 0 ≤ x := by
    rcases Int.lt_or_le x 0 with q | q
    ·exfalso
     split at h5
     ·omega
     ·first
      | omega
      | (rw [if_pos q] at h5; omega)
    ·exact q
   rw [if_pos c2,if_neg (by omega),if_neg (by omega),if_pos c2,rk0_get hd x y ov (by omega),rk0_eq,jn_sym _ x.toNat]
  ·rw [if_neg c2]
   by_cases c3:sg = 1
   ·rw [if_pos c3,if_pos (by omega),rk0_eq]
   ·have c0 : sg = 0 := by
     split at h5
     ·exact h5
     ·split at h5 <;> omega
    have hxy:0 ≤ x → 0 ≤ y → x ≠ y:=fun hx hy e => by
     rw [if_neg (fun q => q e),if_neg (by omega)] at h5
     omega
    rw [if_neg c3,if_neg (by omega),if_neg c3,if_neg c2,← rk0_eq]
    unfold rlead leadM
    have P0:=pP_at d x y ov 2
    have P3:=pP_at d x y ov 3
    have Q0:=pQ_at d x y ov 0
    have Q3:=pQ_at d x y ov 3
    have n1:=pP_ne d x y ov (t := 3) (t' := 2) (by omega) (by omega) (by omega)
    have n2:=pQ_ne d x y ov (t := 3) (t' := 0) (by omega) (by omega) (by omega)
    by_cases hx:x < 0
    ·rw [if_pos hx,if_pos hx]
     by_cases hy:y < 0
     ·rw [if_pos hy,if_pos hy,jn_swq _ (by omega) n1 n2 (by omega)]
     ·rw [if_neg hy,if_neg hy,jn_get_ne (by omega) (by omega),rk0_get hd x y ov (by omega)]
      have hm:=hd.lt y.toNat (by omega)
      rw [jn_swq (rk0 d x y ov) (a := pP d x y ov 3) (b := pQ d x y ov 3) (by omega) (by omega) n2 (by omega)]
      rw [jn_swq _ (a := pP d x y ov 3) (b := pQ d x y ov 3) n1 (by omega) (by omega) (by omega),jn_sym _ y.toNat]
    ·rw [if_neg hx,if_neg hx]
     have hmx:=hd.lt x.toNat (by omega)
     by_cases hy:y < 0
     ·rw [if_pos hy,if_pos hy,rk0_get hd x y ov (by omega)]
      rw [jn_swq _ (a := pQ d x y ov 3) (b := d.m x.toNat) n2 (by omega) (by omega) (by omega)]
      rw [jn_swq _ (a := pP d x y ov 3) (b := x.toNat) (by omega) n1 (by omega) (by omega),jn_sym _ x.toNat]
     ·have hne:x.toNat ≠ y.toNat:=by have := hxy (by omega) (by omega); omega
      have hnm:d.m x.toNat ≠ y.toNat:=hnr c0 (by omega) (by omega)
      have hmy:=hd.lt y.toNat (by omega)
      have hnm2:d.m y.toNat ≠ x.toNat:=fun e => hnm (by rw [← e,hd.inv _ (by omega)])
      have hmm:d.m x.toNat ≠ d.m y.toNat:=fun e => hne (by rw [← hd.inv x.toNat (by omega),e,hd.inv _ (by omega)])
      rw [if_neg hy,if_neg hy,rk0_get hd x y ov (k := x.toNat) (by omega),jn_get_ne (by omega) (by omega),jn_get_ne (by omega) (by omega),rk0_get hd x y ov (k := y.toNat) (by omega)]
      rw [jn_swq _ (a := pQ d x y ov 3) (b := d.m x.toNat) n2 (by omega) (by omega) (by omega)]
      rw [jn_swq _ (a := pP d x y ov 3) (b := x.toNat) (by omega) (by omega) (by omega) (by omega)]
      rw [jn_swq _ (a := pQ d x y ov 3) (b := d.m x.toNat) (by omega) (by omega) (by omega) (by omega)]
      rw [jn_swq _ (a := pP d x y ov 3) (b := x.toNat) n1 (by omega) (by omega) (by omega)]
      rw [jn_sym _ y.toNat,jn_sym _ x.toNat]
theorem rk_sgn (d:Pl.Dg) (x y:Int) (ov:Bool):sgn2 (un0 d x y ov) (ov0 d x y ov) = (if (ov0 d x y ov + 4 - un0 d x y ov) % 4 = 1 then -1 else 1) ∧ sgn2 (un1 d x y ov) (ov1 d x y ov) = (if (ov1 d x y ov + 4 - un1 d x y ov) % 4 = 1 then -1 else 1) := by
 unfold sgn2 plc un0 un1 ov0 ov1 lnS th0 th1
 constructor <;> (cases ov <;> cases fwd d x <;> cases fwd d y <;> decide)
end Go.Proofs.Ytobbepmlmbbamaa
end
