/-
 The texts Rt.
-/
import Derived.Test.YtghdiolnonejaaaS05
import Derived.Test.YtghdiolnonejaaaS11
set_option linter.unusedVariables false
set_option linter.unusedSimpArgs false
section
namespace Go.Proofs.Ytghdiolnonejaaa
open Go.RowKit
theorem sh1_neg {h:Int} (hh:h < 0) (c:Nat):sh1 h c = h := by
 unfold sh1
 rw [if_neg (fun e => by omega)]
theorem lpv_neg (d:Pl.Dg) (h:Nat):lpv d h < 0 := by unfold lpv; split <;> decide
theorem sh_lpv (d:Pl.Dg) (h x y:Nat):sh1 (sh1 (lpv d h) y) x = lpv d h := by rw [sh1_neg (lpv_neg d h),sh1_neg (lpv_neg d h)]
theorem sh_old (d:Pl.Dg) {x y:Nat} (hxy:x < y) (h:Nat):sh1 (sh1 ((d.m h:Nat):Int) y) x = oldv d x y h := by
 rw [sh1_shf,sh1_shf,Pl.shf_two hxy]
 rfl
def ruX (d:Pl.Dg) (l:Ln):Int := if d.m l.q3 = l.q0 then (if d.m l.p2 = l.p3 then lpv d l.p3 else (d.m l.p3:Nat)) else if d.m l.p2 = l.p3 then (d.m l.q0:Nat) else if d.m l.p3 = l.q3 then lpv d l.p3 else (d.m l.p3:Nat)
def ruY (d:Pl.Dg) (l:Ln):Int := if d.m l.q3 = l.q0 then (if d.m l.p2 = l.p3 then lpv d l.p3 else (d.m l.p3:Nat)) else if d.m l.p2 = l.p3 then (d.m l.q0:Nat) else if d.m l.q0 = l.p2 then lpv d l.q0 else (d.m l.q0:Nat)
theorem ruX_eq (d:Pl.Dg) (l:Ln) {x y:Nat} (hxy:x < y):sh1 (sh1 (ruX d l) y) x = pusX d l x y := by
 unfold ruX pusX
 split
 ·split
  ·exact sh_lpv _ _ _ _
  ·exact sh_old _ hxy _
 ·split
  ·exact sh_old _ hxy _
  ·split
   ·exact sh_lpv _ _ _ _
   ·exact sh_old _ hxy _
theorem ruY_eq (d:Pl.Dg) (l:Ln) {x y:Nat} (hxy:x < y):sh1 (sh1 (ruY d l) y) x = pusY d l x y := by
 unfold ruY pusY
 split
 ·split
  ·exact sh_lpv _ _ _ _
  ·exact sh_old _ hxy _
 ·split
  ·exact sh_old _ hxy _
  ·split
   ·exact sh_lpv _ _ _ _
   ·exact sh_old _ hxy _
end Go.Proofs.Ytghdiolnonejaaa
end
