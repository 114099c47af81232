/-
 The text Ru.
-/
import Derived.Test.YtobbepmlmbbamaaCRs
import Derived.Test.YtobbepmlmbbamaaCZa
set_option linter.unusedVariables false
set_option linter.unusedSimpArgs false
section
namespace Go.Proofs.Ytobbepmlmbbamaa
open Go.RowKit
theorem unp_ref {d:Pl.Dg} (hd:Pl.Wf d) {x y i:Nat} (hxy:x < y) (hy:y < d.n) (hL:lensI d x y = some i) :
 unpDl d (lensOf d (lnH x y i)) x y = ⟨Pl.shrS [x] (Pl.shrS [y] d.sg),Pl.shrM [x] (d.n - 1) (Pl.shrM [y] d.n (upM d (lensOf d (lnH x y i)))),upL d (lensOf d (lnH x y i))⟩:=by
 obtain ⟨L,hp,e1,e2⟩:=lens_lens hd hxy hy hL
 obtain ⟨h,hh⟩:∃ h,h = lnH x y i := ⟨_,rfl⟩
 rw [← hh] at L hp e1 e2 ⊢
 obtain ⟨u,hu⟩:∃ u,u = d.m h := ⟨_,rfl⟩
 rw [← hu] at L hp e1 e2
 have hl:=L.hh
 have hul:=L.hu hd
 have hne:=L.ne
 have p3:(lensOf d h).p3 = Pl.tn h 3:=by
  show Pl.tn (d.m (Pl.nx d h)) 2 = Pl.tn h 3
  rw [e1,e2,Pl.tn_tn]
 have q0:(lensOf d h).q0 = Pl.tn u 2:=by
  show Pl.tn (d.m h) 2 = Pl.tn u 2
  rw [← hu]
 have q3:(lensOf d h).q3 = Pl.tn u 1:=by
  show Pl.tn (Pl.nx d h) 2 = Pl.tn u 1
  rw [e1,Pl.tn_tn]
  unfold Pl.tn
  omega
 have p2:(lensOf d h).p2 = Pl.tn h 2:=rfl
 have dv:∀ z k,Pl.tn z k / 4 = z / 4:=fun z k => Pl.tn_div z k
 refine unp_same hd hxy hy ?_ ?_ ?_ ?_ ?_ ?_ ?_ ?_ ?_ ?_ ?_ ?_ ?_ ?_ <;> (try rw [p2]) <;> (try rw [p3]) <;> (try rw [q0]) <;> (try rw [q3])
 ·exact Pl.tn_lt hl
 ·exact Pl.tn_lt hul
 ·exact Pl.tn_lt hl
 ·exact Pl.tn_lt hul
 ·rw [dv]; omega
 ·rw [dv]; omega
 ·rw [dv]; omega
 ·rw [dv]; omega
 ·intro e; have := congrArg (· / 4) e; simp only [dv] at this; exact hne this
 ·exact Pl.tn_ne (by omega)
 ·intro e; have := congrArg (· / 4) e; simp only [dv] at this; exact hne this
 ·intro e; have := congrArg (· / 4) e; simp only [dv] at this; exact hne this.symm
 ·exact Pl.tn_ne (by omega)
 ·intro e; have := congrArg (· / 4) e; simp only [dv] at this; exact hne this
end Go.Proofs.Ytobbepmlmbbamaa
end
