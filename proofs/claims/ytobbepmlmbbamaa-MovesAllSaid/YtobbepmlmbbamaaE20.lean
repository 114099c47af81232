/-
 The texts Xk, Za, Ru, Xm.
-/
import Derived.Test.YtobbepmlmbbamaaE13
import Derived.Test.YtobbepmlmbbamaaE19
set_option linter.unusedVariables false
set_option linter.unusedSimpArgs false
section
namespace Go.Proofs.Ytobbepmlmbbamaa
open Go Go.RowKit
attribute [local go_sem ↓] Go.wp_at_zero Go.wp_at_succ
noncomputable def apC (d:Pl.Dg) (m:Mv):Int :=
 if m.kind < 1 ∨ 5 < m.kind then 11 else if Pl.vb (inR d.n m) = false then 2 else if m.kind = 1 then curlableC d m.x else if m.kind = 2 then uncC d m.x.toNat else if m.kind = 3 then pkQ d m.x m.y m.sign else if m.kind = 4 then unpC d m.x.toNat m.y.toNat else sldC d m.x.toNat
def apD (d:Pl.Dg) (m:Mv):Pl.Dg :=
 if m.kind = 1 then crl d m.x m.sign m.over else if m.kind = 2 then unD d m.x.toNat else if m.kind = 3 then pkD d m.x m.y m.sign m.over else if m.kind = 4 then unpD d m.x.toNat m.y.toNat else sldD d m.x.toNat
def apI (d:Pl.Dg) (m:Mv):Mv :=
 if m.kind = 1 then ⟨2,d.n,0,0,false⟩ else if m.kind = 2 then unI d m.x.toNat else if m.kind = 3 then ⟨4,d.n,d.n + 1,0,false⟩ else if m.kind = 4 then unpI d m.x.toNat m.y.toNat else sldI d m.x.toNat
theorem resC_err {c:Int} {r:Pl.Dg} {mv:Mv} {w:World} {e:Ending} {w':World} (hc:c ≠ 0) (h:ResErr c e ∧ Below w.heap.size w w'):ResC c r mv w e w' := ⟨fun _ => h.1,fun h0 => absurd h0 hc,h.2⟩
end Go.Proofs.Ytobbepmlmbbamaa
end
section
namespace Go.Proofs.Ytobbepmlmbbamaa
open Go Go.RowKit
theorem lens_lens {d:Pl.Dg} (hd:Pl.Wf d) {x y i:Nat} (hxy:x < y) (hy:y < d.n) (h:lensI d x y = some i) :
 Pl.Lens d (lnH x y i) (d.m (lnH x y i)) ∧ ((x = lnH x y i / 4 ∧ y = d.m (lnH x y i) / 4) ∨ (x = d.m (lnH x y i) / 4 ∧ y = lnH x y i / 4)) ∧ Pl.nx d (lnH x y i) = Pl.tn (d.m (lnH x y i)) 3 ∧ d.m (Pl.tn (d.m (lnH x y i)) 3) = Pl.tn (lnH x y i) 1 := by
 obtain ⟨h1,h2,h3⟩:=lens_is h
 have hi:=lens_lt h
 have hl:lnH x y i < 4 * d.n:=by unfold lnH; split <;> omega
 have hu:=hd.lt _ hl
 have e1:d.m (Pl.tn (d.m (lnH x y i)) 3) = Pl.tn (lnH x y i) 1:=by
  unfold Pl.nx at h2
  unfold Pl.tn at h2 ⊢
  omega
 have e2:Pl.nx d (lnH x y i) / 4 = d.m (lnH x y i) / 4:=by unfold Pl.nx; rw [Pl.tn_div]
 have e3:lnH x y i / 4 = if i < 4 then x else y:=by unfold lnH; split <;> omega
 rw [e2] at h1
 unfold lnO at h1
 have hp:(x = lnH x y i / 4 ∧ y = d.m (lnH x y i) / 4) ∨ (x = d.m (lnH x y i) / 4 ∧ y = lnH x y i / 4):=by
  by_cases h4:i < 4
  ·rw [if_pos h4] at h1 e3; exact .inl ⟨e3.symm,h1.symm⟩
  ·rw [if_neg h4] at h1 e3; exact .inr ⟨h1.symm,e3.symm⟩
 refine ⟨⟨hl,rfl,by rw [← e1,hd.inv _ (Pl.tn_lt hu)],fun e => ?_⟩,hp,rfl,e1⟩
 rcases hp with ⟨a,b⟩ | ⟨a,b⟩ <;> omega
end Go.Proofs.Ytobbepmlmbbamaa
end
section
namespace Go.Proofs.Ytobbepmlmbbamaa
open Go.RowKit
theorem unp_ref {d:Pl.Dg} (hd:Pl.Wf d) {x y i:Nat} (hxy:x < y) (hy:y < d.n) (hL:lensI d x y = some i) :
 unpDl d (lensOf d (lnH x y i)) x y = ⟨Pl.shrS [x] (Pl.shrS [y] d.sg),Pl.shrM [x] (d.n - 1) (Pl.shrM [y] d.n (upM d (lensOf d (lnH x y i)))),upL d (lensOf d (lnH x y i))⟩:=by
 obtain ⟨L,hp,e1,e2⟩:=lens_lens hd hxy hy hL
 obtain ⟨h,hh⟩:∃ h,h = lnH x y i := ⟨_,rfl⟩
 rw [← hh] at L hp e1 e2 ⊢
 obtain ⟨u,hu⟩:∃ u,u = d.m h := ⟨_,rfl⟩
 rw [← hu] at L hp e1 e2
 have hl:=L.hh
 have hul:=L.hu hd
 have hne:=L.ne
 have p3:(lensOf d h).p3 = Pl.tn h 3:=by
  show Pl.tn (d.m (Pl.nx d h)) 2 = Pl.tn h 3
  rw [e1,e2,Pl.tn_tn]
 have q0:(lensOf d h).q0 = Pl.tn u 2:=by
  show Pl.tn (d.m h) 2 = Pl.tn u 2
  rw [← hu]
 have q3:(lensOf d h).q3 = Pl.tn u 1:=by
  show Pl.tn (Pl.nx d h) 2 = Pl.tn u 1
  rw [e1,Pl.tn_tn]
  unfold Pl.tn
  omega
 have p2:(lensOf d h).p2 = Pl.tn h 2:=rfl
 have dv:∀ z k,Pl.tn z k / 4 = z / 4:=fun z k => Pl.tn_div z k
 refine unp_same hd hxy hy ?_ ?_ ?_ ?_ ?_ ?_ ?_ ?_ ?_ ?_ ?_ ?_ ?_ ?_ <;> (try rw [p2]) <;> (try rw [p3]) <;> (try rw [q0]) <;> (try rw [q3])
 ·exact Pl.tn_lt hl
 ·exact Pl.tn_lt hul
 ·exact Pl.tn_lt hl
 ·exact Pl.tn_lt hul
 ·rw [dv]; omega
 ·rw [dv]; omega
 ·rw [dv]; omega
 ·rw [dv]; omega
 ·intro e; have := congrArg (· / 4) e; simp only [dv] at this; exact hne this
 ·exact Pl.tn_ne (by omega)
 ·intro e; have := congrArg (· / 4) e; simp only [dv] at this; exact hne this
 ·intro e; have := congrArg (· / 4) e; simp only [dv] at this; exact hne this.symm
 ·exact Pl.tn_ne (by omega)
 ·intro e; have := congrArg (· / 4) e; simp only [dv] at this; exact hne this
end Go.Proofs.Ytobbepmlmbbamaa
end
section
namespace Go.Proofs.Ytobbepmlmbbamaa
open Go Go.RowKit
theorem small_any (A B:Option Addr) (n q cp cq:Nat) (l:Value) (w:World):Calls Try.prog 21 #[.agg #[.slice A n cp,.slice B q cq,l]] w fun e w' => (e = .returned (.int .i64 0) ∨ e = .returned (.int .i64 1)) ∧ Below w.heap.size w w' := by
 by_cases h1:(12:Int) < (n:Int)
 ·go_enter Try.func21,Try.ntmps21
  go_wp2
  go_ret
  exact ⟨.inl rfl,(Below.refl _ _).alloc (Nat.le_refl _) _⟩
 ·by_cases h2:(60:Int) < (q:Int)
  ·go_enter Try.func21,Try.ntmps21
   go_wp2
   go_ret
   exact ⟨.inl rfl,(Below.refl _ _).alloc (Nat.le_refl _) _⟩
  ·go_enter Try.func21,Try.ntmps21
   go_wp2
   go_ret
   exact ⟨.inr rfl,(Below.refl _ _).alloc (Nat.le_refl _) _⟩
end Go.Proofs.Ytobbepmlmbbamaa
end
