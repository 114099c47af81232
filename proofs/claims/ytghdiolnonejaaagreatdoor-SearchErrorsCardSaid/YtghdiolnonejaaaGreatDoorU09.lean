/-
 The texts Xw, Rw, Rzb.
-/
import Derived.Test.YtghdiolnonejaaaGreatDoorS00
import Derived.Test.YtghdiolnonejaaaGreatDoorS01
import Derived.Test.YtghdiolnonejaaaGreatDoorS02
import Derived.Test.YtghdiolnonejaaaGreatDoorS03
import Derived.Test.YtghdiolnonejaaaGreatDoorS04
import Derived.Test.YtghdiolnonejaaaGreatDoorS05
import Derived.Test.YtghdiolnonejaaaGreatDoorS07
import Derived.Test.YtghdiolnonejaaaGreatDoorU05
import Derived.Test.YtghdiolnonejaaaGreatDoorU06
import Derived.Test.YtghdiolnonejaaaGreatDoorU07
import Derived.BigQuiet
import Derived.Deep.AppendLies
import Derived.Deep.CutBlock
import Derived.Deep.DeepCutAuto
import Derived.Deep.DrawnRows
import Derived.Deep.Light
import Derived.Deep.LoopGhost
import Derived.Deep.QuietTactic
import Derived.Deep.RegionHeld3
import Derived.Deep.RegionLaw
import Derived.Deep.RegionWith
import Derived.Laws.AppendOwn
import Derived.Laws.MakeOwn
import Derived.Laws.OwnMore
import Derived.Laws.Rows
import Derived.Maps.AppendAt
import Derived.Outline
import Derived.RegionTactic
import Derived.Shelf.Spec.SlicesGrow
import Derived.StillTailTactics
import Derived.Test.YtghdiolnonejaaaGreatDoorRows
import Derived.Test.YtghdiolnonejaaaGreatDoorShelf
import Derived.WalkKit
import Derived.WalkLawsBesides
import Derived.WalkSpells
set_option linter.unusedVariables false
set_option linter.unusedSimpArgs false
section
namespace Go.Proofs.YtghdiolnonejaaaGreatDoor
open Go Go.RowKit
theorem mem_unC {n:Nat} {z:Mv}:∀ k,k ≤ n → (z ∈ unC k ↔ z.kind = 2 ∧ inR n z ∧ z.x < (k:Int))
 | 0, _ => by
   constructor
   ·intro h; cases h
   ·rintro ⟨h1,h2,h3⟩
    unfold inR at h2
    rw [if_neg (by omega),if_pos h1] at h2
    omega
 | k + 1, h => by
   show z ∈ unC k ++ [⟨2,k,0,0,false⟩] ↔ _
   rw [List.mem_append,mem_unC (n := n) k (by omega)]
   obtain ⟨zk,zx,zy,zs,zo⟩:=z
   constructor
   ·rintro (⟨h1,h2,h3⟩ | h1)
    ·exact ⟨h1,h2,by simp only at h3 ⊢; omega⟩
    ·simp only [List.mem_cons,List.not_mem_nil,or_false,Mv.mk.injEq] at h1
     obtain ⟨rfl,rfl,rfl,rfl,rfl⟩:=h1
     refine ⟨rfl,?_,by simp only; omega⟩
     unfold inR
     simp
     omega
   ·rintro ⟨h1,h2,h3⟩
    by_cases hx:zx < (k:Int)
    ·exact .inl ⟨h1,h2,hx⟩
    ·right
     unfold inR at h2
     rw [if_neg (by omega),if_pos h1] at h2
     simp only at h1 h2 h3
     simp only [List.mem_cons,List.not_mem_nil,or_false,Mv.mk.injEq]
     exact ⟨h1,by omega,h2.2.2.1,h2.2.2.2.1,h2.2.2.2.2⟩
theorem mem_upN {n x:Nat} {z:Mv}:∀ k,k ≤ n → (z ∈ upN x k ↔ z.kind = 4 ∧ inR n z ∧ z.x = (x:Int) ∧ z.y < (k:Int))
 | 0, _ => by
   constructor
   ·intro h; cases h
   ·rintro ⟨h1,h2,h3,h4⟩
    unfold inR at h2
    rw [if_neg (by omega),if_neg (by omega),if_pos h1] at h2
    omega
 | k + 1, h => by
   show z ∈ upN x k ++ (if x < k then [⟨4,x,k,0,false⟩] else []) ↔ _
   rw [List.mem_append,mem_upN (n := n) k (by omega)]
   obtain ⟨zk,zx,zy,zs,zo⟩:=z
   constructor
   ·rintro (⟨h1,h2,h3,h4⟩ | h1)
    ·exact ⟨h1,h2,h3,by simp only at h4 ⊢; omega⟩
    ·split at h1
     ·simp only [List.mem_cons,List.not_mem_nil,or_false,Mv.mk.injEq] at h1
      obtain ⟨rfl,rfl,rfl,rfl,rfl⟩:=h1
      refine ⟨rfl,?_,rfl,by simp only; omega⟩
      unfold inR
      simp
      omega
     ·cases h1
   ·rintro ⟨h1,h2,h3,h4⟩
    by_cases hx:zy < (k:Int)
    ·exact .inl ⟨h1,h2,h3,hx⟩
    ·right
     unfold inR at h2
     rw [if_neg (by omega),if_neg (by omega),if_pos h1] at h2
     simp only at h1 h2 h3 h4
     rw [if_pos (by omega)]
     simp only [List.mem_cons,List.not_mem_nil,or_false,Mv.mk.injEq]
     exact ⟨h1,h3,by omega,h2.2.2.2.1,h2.2.2.2.2⟩
theorem mem_upNX {n:Nat} {z:Mv}:∀ k,k ≤ n → (z ∈ upNX n k ↔ z.kind = 4 ∧ inR n z ∧ z.x < (k:Int))
 | 0, _ => by
   constructor
   ·intro h; cases h
   ·rintro ⟨h1,h2,h3⟩
    unfold inR at h2
    rw [if_neg (by omega),if_neg (by omega),if_pos h1] at h2
    omega
 | k + 1, h => by
   show z ∈ upNX n k ++ upN k n ↔ _
   rw [List.mem_append,mem_upNX (n := n) k (by omega),mem_upN (n := n) n (Nat.le_refl _)]
   constructor
   ·rintro (⟨h1,h2,h3⟩ | ⟨h1,h2,h3,h4⟩)
    ·exact ⟨h1,h2,by omega⟩
    ·exact ⟨h1,h2,by omega⟩
   ·rintro ⟨h1,h2,h3⟩
    by_cases hx:z.x < (k:Int)
    ·exact .inl ⟨h1,h2,hx⟩
    ·right
     refine ⟨h1,h2,by omega,?_⟩
     unfold inR at h2
     rw [if_neg (by omega),if_neg (by omega),if_pos h1] at h2
     omega
theorem un_kind {d:Pl.Dg} {z:Mv} (h:z ∈ sel d (unC d.n)):z.kind = 2 := ((mem_unC _ (Nat.le_refl _)).1 (mem_sel.1 h).1).1
theorem up_kind {d:Pl.Dg} {z:Mv} (h:z ∈ sel d (upNX d.n d.n)):z.kind = 4 := ((mem_upNX _ (Nat.le_refl _)).1 (mem_sel.1 h).1).1
end Go.Proofs.YtghdiolnonejaaaGreatDoor
end
section
namespace Go.Proofs.YtghdiolnonejaaaGreatDoor
open Go Go.RowKit
attribute [local go_sem ↓] Go.wp_at_zero Go.wp_at_succ
theorem shrS_len (gs:List Nat) (sg:List Int):(Pl.shrS gs sg).length = (Pl.left sg.length gs).length := by unfold Pl.shrS; simp
structure RB (base:Nat) (w:World) (vS vM:Value) (n q:Nat) (lp:Int) (mv:List Value) (ss:List Int) (l:List Nat) (gK:Nat) (bk:List Value) (W:World):Prop where
 k:RK base w vS vM n q lp mv ss l W
 b:Row W gK 43 bk
 lo:w.heap.size + 4 ≤ gK
section
variable {base:Nat} {w W W' W2:World} {vS vM:Value} {n q gK:Nat} {lp:Int} {mv bk:List Value} {ss:List Int} {l:List Nat}
end
section
variable {base:Nat} {w W:World} {vS vM k x y s o b0 b3 b4:Value} {n q gK:Nat} {lp:Int} {ss:List Int} {l:List Nat}
end
end Go.Proofs.YtghdiolnonejaaaGreatDoor
end
section
namespace Go.Proofs.YtghdiolnonejaaaGreatDoor
open Go Go.RowKit
attribute [local go_sem ↓] Go.wp_at_zero Go.wp_at_succ
def prs (l:List Nat):List Value := l.map (fun k:Nat => Value.int .i64 k)
section
variable {base:Nat} {w W W' W2:World} {vS vM:Value} {n q:Nat} {lp:Int} {mv:List Value} {ss:List Int} {l:List Nat}
end
structure SQ (base:Nat) (w w2:World) (vS vM:Value) (n q:Nat) (lp:Int) (mv:List Value) (ss:List Int) (l:List Nat) (gt:Nat) (tl:List Int) (v:Value) (qn:Nat) (E:List Nat) (W:World):Prop where
 k:RK base w vS vM n q lp mv ss l W
 t:IRow W gt tl
 e:W.ownsRow (gt + 1) 124 2 v qn (prs E)
 lo:w.heap.size + 4 ≤ gt
 gt2:w2.heap.size = gt
 b2:Below w2.heap.size w2 W
 hS:∀ g,vS.ownBlock = some g → g < w.heap.size
 hM:∀ g,vM.ownBlock = some g → g < w.heap.size
section
variable {base:Nat} {w w2 W W' W2:World} {vS vM v v':Value} {n q gt qn:Nat} {lp:Int} {mv:List Value} {ss tl:List Int} {l E:List Nat}
end
section
variable {base:Nat} {w W W' W2:World} {vS vM:Value} {n q gt ge gO g1 c1 g2 c2 b3 gV:Nat} {lp:Int} {mv bk:List Value} {ss tl:List Int} {l L L':List Nat} {E:Nat → Nat}
end
end Go.Proofs.YtghdiolnonejaaaGreatDoor
end
