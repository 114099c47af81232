/-
 The text Za.
-/
import Derived.Test.YtobbepmlmbbamaaCXg
import Derived.Test.YtobbepmlmbbamaaCXk
import Derived.Test.YtobbepmlmbbamaaCXo
set_option linter.unusedVariables false
set_option linter.unusedSimpArgs false
section
namespace Go.Proofs.Ytobbepmlmbbamaa
open Go Go.RowKit
theorem lens_lens {d:Pl.Dg} (hd:Pl.Wf d) {x y i:Nat} (hxy:x < y) (hy:y < d.n) (h:lensI d x y = some i) :
 Pl.Lens d (lnH x y i) (d.m (lnH x y i)) ∧ ((x = lnH x y i / 4 ∧ y = d.m (lnH x y i) / 4) ∨ (x = d.m (lnH x y i) / 4 ∧ y = lnH x y i / 4)) ∧ Pl.nx d (lnH x y i) = Pl.tn (d.m (lnH x y i)) 3 ∧ d.m (Pl.tn (d.m (lnH x y i)) 3) = Pl.tn (lnH x y i) 1 := by
 obtain ⟨h1,h2,h3⟩:=lens_is h
 have hi:=lens_lt h
 have hl:lnH x y i < 4 * d.n:=by unfold lnH; split <;> omega
 have hu:=hd.lt _ hl
 have e1:d.m (Pl.tn (d.m (lnH x y i)) 3) = Pl.tn (lnH x y i) 1:=by
  unfold Pl.nx at h2
  unfold Pl.tn at h2 ⊢
  omega
 have e2:Pl.nx d (lnH x y i) / 4 = d.m (lnH x y i) / 4:=by unfold Pl.nx; rw [Pl.tn_div]
 have e3:lnH x y i / 4 = if i < 4 then x else y:=by unfold lnH; split <;> omega
 rw [e2] at h1
 unfold lnO at h1
 have hp:(x = lnH x y i / 4 ∧ y = d.m (lnH x y i) / 4) ∨ (x = d.m (lnH x y i) / 4 ∧ y = lnH x y i / 4):=by
  by_cases h4:i < 4
  ·rw [if_pos h4] at h1 e3; exact .inl ⟨e3.symm,h1.symm⟩
  ·rw [if_neg h4] at h1 e3; exact .inr ⟨h1.symm,e3.symm⟩
 refine ⟨⟨hl,rfl,by rw [← e1,hd.inv _ (Pl.tn_lt hu)],fun e => ?_⟩,hp,rfl,e1⟩
 rcases hp with ⟨a,b⟩ | ⟨a,b⟩ <;> omega
end Go.Proofs.Ytobbepmlmbbamaa
end
