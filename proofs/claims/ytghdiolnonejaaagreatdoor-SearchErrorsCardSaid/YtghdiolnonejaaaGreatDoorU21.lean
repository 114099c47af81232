/-
 The texts Vd.
-/
import Derived.Test.YtghdiolnonejaaaGreatDoorS00
import Derived.Test.YtghdiolnonejaaaGreatDoorS02
import Derived.Test.YtghdiolnonejaaaGreatDoorS03
import Derived.Test.YtghdiolnonejaaaGreatDoorU01
import Derived.Test.YtghdiolnonejaaaGreatDoorU05
import Derived.Test.YtghdiolnonejaaaGreatDoorU18
import Derived.BigQuiet
import Derived.Deep.AppendLies
import Derived.Deep.CutBlock
import Derived.Deep.CutRange
import Derived.Deep.DeepCutAuto
import Derived.Deep.DrawnRows
import Derived.Deep.Light
import Derived.Deep.LoopGhost
import Derived.Deep.QuietTactic
import Derived.Deep.RegionHeld3
import Derived.Deep.RegionLaw
import Derived.Deep.RegionWith
import Derived.Laws.AppendOwn
import Derived.Laws.MakeOwn
import Derived.Laws.OwnMore
import Derived.Laws.Rows
import Derived.Laws.Slices
import Derived.Maps.AppendAt
import Derived.Outline
import Derived.RegionTactic
import Derived.Shelf.Spec.SlicesGrow
import Derived.StillTailTactics
import Derived.Test.YtghdiolnonejaaaGreatDoorRows
import Derived.Test.YtghdiolnonejaaaGreatDoorShelf
import Derived.WalkKit
import Derived.WalkLawsBesides
import Derived.WalkSpells
set_option linter.unusedVariables false
set_option linter.unusedSimpArgs false
section
namespace Go.Proofs.YtghdiolnonejaaaGreatDoor
open Go Go.RowKit
def IntT (W:World) (v:Value) (xs:List Int):Prop := ∃ A c,v = .slice A xs.length c ∧ xs.length ≤ c ∧ RowT W 3 A xs.length (xs.map (.int .i64))
theorem IntT.below {W W':World} {v:Value} {xs:List Int} (h:IntT W v xs) (hb:Below W.heap.size W W'):IntT W' v xs := let ⟨A,c,e,h1,h2⟩:=h; ⟨A,c,e,h1,h2.keep hb⟩
theorem IntT.grown {W W':World} {v:Value} {xs:List Int} {row:Option Nat} {t':TypeId} (h:IntT W v xs) (hg:W.grownBy W' row) (hr:∀ g,row = some g → ∃ cs fr,W.heap[g]? = some (.cells cs t' fr)) (hne:3 ≠ t'):IntT W' v xs := let ⟨A,c,e,h1,h2⟩:=h; ⟨A,c,e,h1,h2.grown hg hr hne⟩
theorem IntT.store {W:World} {v:Value} {xs:List Int} {g i:Nat} {us:List Value} {t':TypeId} (h:IntT W v xs) (hr:Row W g t' us) (hne:3 ≠ t') (u:Value):IntT (W.setCell ⟨g,i,none⟩ u) v xs := let ⟨A,c,e,h1,h2⟩:=h; ⟨A,c,e,h1,h2.store hr hne _⟩
theorem own_intT {W:World} {base:Nat} {v:Value} {xs:List Int} (h:W.ownsRow base 3 1 v xs.length (xs.map (.int .i64))):IntT W v xs := by
 obtain ⟨A,c,rfl⟩:=owns_slice h
 exact ⟨A,c,rfl,own_cap h,own_rowT h⟩
structure PcV (W:World) (vC vO:Value) (x:Int) (p:Pl.Pc):Prop where
 c:IntT W vC p.code
 o:IntT W vO (nats p.order)
 r:x = p.roots
section
variable {W W':World} {vC vO:Value} {x:Int} {p:Pl.Pc}
theorem PcV.below (h:PcV W vC vO x p) (hb:Below W.heap.size W W'):PcV W' vC vO x p := ⟨h.c.below hb,h.o.below hb,h.r⟩
theorem PcV.grown {row:Option Nat} {t':TypeId} (h:PcV W vC vO x p) (hg:W.grownBy W' row) (hr:∀ g,row = some g → ∃ cs fr,W.heap[g]? = some (.cells cs t' fr)) (hne:3 ≠ t'):PcV W' vC vO x p := ⟨h.c.grown hg hr hne,h.o.grown hg hr hne,h.r⟩
theorem PcV.store {g i:Nat} {us:List Value} {t':TypeId} (h:PcV W vC vO x p) (hr:Row W g t' us) (hne:3 ≠ t') (u:Value):PcV (W.setCell ⟨g,i,none⟩ u) vC vO x p := ⟨h.c.store hr hne u,h.o.store hr hne u,h.r⟩
end
def PBox (d:Pl.Dg) (l:List Nat) (k:Nat) (W:World) (vC vO:Value) (x:Int):Prop :=
 (k = 0 ∧ vC = .slice none 0 0 ∧ vO = .slice none 0 0 ∧ x = 0) ∨ ∃ p,PcV W vC vO x p ∧ Pl.Lst5 d (l.take k) p ∧ 0 ≤ x ∧ x ≤ k
theorem PBox.below {d:Pl.Dg} {l:List Nat} {k:Nat} {W W':World} {vC vO:Value} {x:Int} (h:PBox d l k W vC vO x) (hb:Below W.heap.size W W'):PBox d l k W' vC vO x := by
 rcases h with h | ⟨p,h1,h2⟩
 ·exact .inl h
 ·exact .inr ⟨p,h1.below hb,h2⟩
theorem PBox.best {d:Pl.Dg} (hd:Pl.Wf d) {l:List Nat} {k q:Nat} {W:World} {vC vO:Value} {x:Int} (h:PBox d l k W vC vO x) (hq:q < d.n) (hl:∀ c,c ∈ l → c < d.n ∧ Pl.Comp d c q) :
 (k = 0 ∧ BestAt W vC (Pl.code d q).length none) ∨ ∃ p,PcV W vC vO x p ∧ Pl.Lst5 d (l.take k) p ∧ 0 ≤ x ∧ x ≤ k ∧ BestAt W vC (Pl.code d q).length (some p.code) := by
 rcases h with ⟨h0,h1,h2,_⟩ | ⟨p,h1,h2,h3,h4⟩
 ·exact .inl ⟨h0,h1⟩
 ·refine .inr ⟨p,h1,h2,h3,h4,?_⟩
  obtain ⟨r,hr,hc,ho⟩:=h2.is
  have hm:=hl r (List.mem_of_mem_take hr)
  obtain ⟨A,c,e,hcap,ht⟩:=h1.c
  have hlen:p.code.length = (Pl.code d q).length:=by rw [hc]; exact Pl.code_len_eq hd hm.1 hq hm.2
  have hpos:0 < p.code.length:=by
   rw [hlen,Pl.code_len]
   have:=(Pl.ord_ok hd hq).root
   have:=List.length_pos_of_mem this
   omega
  obtain ⟨b,o,cs,fr,hA,_⟩:=ht.2 hpos
  subst hA
  exact ⟨b,o,c,e,ht.row,hlen,hcap⟩
end Go.Proofs.YtghdiolnonejaaaGreatDoor
end
