/-
  The texts Xk.
-/
import Derived.Test.YtdgliimmnnhhjaaGreatDoorU25
import Derived.Test.YtdgliimmnnhhjaaGreatDoorU29
set_option linter.unusedVariables false
set_option linter.unusedSimpArgs false
section
namespace Go.Proofs.YtdgliimmnnhhjaaGreatDoor
open Go Go.RowKit
attribute [local go_sem ↓] Go.wp_at_zero Go.wp_at_succ
noncomputable def apC (d:Pl.Dg)(m:Mv):Int :=
 if m.kind<1∨5<m.kind then 11 else if Pl.vb (inR d.n m)=false then 2 else if m.kind=1 then curlableC d m.x else if m.kind=2 then uncC d m.x.toNat else if m.kind=3 then pkQ d m.x m.y m.sign else if m.kind=4 then unpC d m.x.toNat m.y.toNat else sldC d m.x.toNat
def apD (d:Pl.Dg)(m:Mv):Pl.Dg :=
 if m.kind=1 then crl d m.x m.sign m.over else if m.kind=2 then unD d m.x.toNat else if m.kind=3 then pkD d m.x m.y m.sign m.over else if m.kind=4 then unpD d m.x.toNat m.y.toNat else sldD d m.x.toNat
def apI (d:Pl.Dg)(m:Mv):Mv :=
 if m.kind=1 then ⟨2,d.n,0,0,false⟩ else if m.kind=2 then unI d m.x.toNat else if m.kind=3 then ⟨4,d.n,d.n+1,0,false⟩ else if m.kind=4 then unpI d m.x.toNat m.y.toNat else sldI d m.x.toNat
end Go.Proofs.YtdgliimmnnhhjaaGreatDoor
end
