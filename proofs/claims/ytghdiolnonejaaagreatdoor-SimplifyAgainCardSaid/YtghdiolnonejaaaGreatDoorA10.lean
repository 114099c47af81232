/-
 The texts Yf, Rzb.
-/
import Derived.Test.YtghdiolnonejaaaGreatDoorA04
import Derived.Test.YtghdiolnonejaaaGreatDoorA06
set_option linter.unusedVariables false
set_option linter.unusedSimpArgs false
section
namespace Go.Proofs.YtghdiolnonejaaaGreatDoor
open Go Go.RowKit
attribute [local go_sem ↓] Go.wp_at_zero Go.wp_at_succ
theorem row3 {W:World} {g:Nat} {t:TypeId} {vs:List Value} (h:Row W g t vs) (l:vs.length = 3) (y0 y1 y2:Value) :
 Row (((W.setCell ⟨g,0,none⟩ y0).setCell ⟨g,1,none⟩ y1).setCell ⟨g,2,none⟩ y2) g t [y0,y1,y2] := by
 obtain ⟨a,b,c,rfl⟩:∃ a b c,vs = [a,b,c] := by
  match vs,l with
  | [a,b,c],_ => exact ⟨a,b,c,rfl⟩
 exact ((h.set 0 y0).set 1 y1).set 2 y2
theorem DgT.set3 {W:World} {A B:Option Addr} {d:Pl.Dg} {g:Nat} {vs:List Value} (h:DgT W A B d) (hr:Row W g 24 vs) (y0 y1 y2:Value):DgT (((W.setCell ⟨g,0,none⟩ y0).setCell ⟨g,1,none⟩ y1).setCell ⟨g,2,none⟩ y2) A B d :=
 ((h.store hr (by decide) y0).store (hr.set 0 y0) (by decide) y1).store ((hr.set 0 y0).set 1 y1) (by decide) y2
theorem below3 {w W:World} {g:Nat} (h:Below w.heap.size w W) (hg:w.heap.size ≤ g) (y0 y1 y2:Value):Below w.heap.size w (((W.setCell ⟨g,0,none⟩ y0).setCell ⟨g,1,none⟩ y1).setCell ⟨g,2,none⟩ y2) :=
 ((h.setCell (by show _ ≤ g; exact hg) y0).setCell (by show _ ≤ g; exact hg) y1).setCell (by show _ ≤ g; exact hg) y2
end Go.Proofs.YtghdiolnonejaaaGreatDoor
end
section
namespace Go.Proofs.YtghdiolnonejaaaGreatDoor
open Go Go.RowKit
attribute [local go_sem ↓] Go.wp_at_zero Go.wp_at_succ
def prs (l:List Nat):List Value := l.map (fun k:Nat => Value.int .i64 k)
section
variable {base:Nat} {w W W' W2:World} {vS vM:Value} {n q:Nat} {lp:Int} {mv:List Value} {ss:List Int} {l:List Nat}
end
structure SQ (base:Nat) (w w2:World) (vS vM:Value) (n q:Nat) (lp:Int) (mv:List Value) (ss:List Int) (l:List Nat) (gt:Nat) (tl:List Int) (v:Value) (qn:Nat) (E:List Nat) (W:World):Prop where
 k:RK base w vS vM n q lp mv ss l W
 t:IRow W gt tl
 e:W.ownsRow (gt + 1) 124 2 v qn (prs E)
 lo:w.heap.size + 4 ≤ gt
 gt2:w2.heap.size = gt
 b2:Below w2.heap.size w2 W
 hS:∀ g,vS.ownBlock = some g → g < w.heap.size
 hM:∀ g,vM.ownBlock = some g → g < w.heap.size
section
variable {base:Nat} {w w2 W W' W2:World} {vS vM v v':Value} {n q gt qn:Nat} {lp:Int} {mv:List Value} {ss tl:List Int} {l E:List Nat}
end
section
variable {base:Nat} {w W W' W2:World} {vS vM:Value} {n q gt ge gO g1 c1 g2 c2 b3 gV:Nat} {lp:Int} {mv bk:List Value} {ss tl:List Int} {l L L':List Nat} {E:Nat → Nat}
end
end Go.Proofs.YtghdiolnonejaaaGreatDoor
end
