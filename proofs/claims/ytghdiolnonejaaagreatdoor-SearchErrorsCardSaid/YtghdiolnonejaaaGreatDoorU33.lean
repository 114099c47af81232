/-
 The texts Hq.
-/
import Derived.Test.YtghdiolnonejaaaGreatDoorS00
import Derived.Test.YtghdiolnonejaaaGreatDoorS01
import Derived.Test.YtghdiolnonejaaaGreatDoorS02
import Derived.Test.YtghdiolnonejaaaGreatDoorS03
import Derived.Test.YtghdiolnonejaaaGreatDoorS04
import Derived.Test.YtghdiolnonejaaaGreatDoorU00
import Derived.Test.YtghdiolnonejaaaGreatDoorU06
import Derived.Test.YtghdiolnonejaaaGreatDoorU12
import Derived.Test.YtghdiolnonejaaaGreatDoorU14
import Derived.Test.YtghdiolnonejaaaGreatDoorU15
import Derived.Test.YtghdiolnonejaaaGreatDoorU19
import Derived.Test.YtghdiolnonejaaaGreatDoorU29
import Derived.Test.YtghdiolnonejaaaGreatDoorU31
import Derived.BigQuiet
import Derived.Deep.AppendLies
import Derived.Deep.CutBlock
import Derived.Deep.CutRange
import Derived.Deep.DeepCutAuto
import Derived.Deep.DrawnRows
import Derived.Deep.Light
import Derived.Deep.LoopGhost
import Derived.Deep.QuietTactic
import Derived.Deep.RegionHeld3
import Derived.Deep.RegionLaw
import Derived.Deep.RegionWith
import Derived.Laws.AppendOwn
import Derived.Laws.MakeOwn
import Derived.Laws.OwnMore
import Derived.Laws.Rows
import Derived.Laws.Slices
import Derived.Lib.ItoaLen
import Derived.Lib.ItoaNum
import Derived.Lib.SmallJoins
import Derived.Maps.AppendAt
import Derived.Maps.OwnSet
import Derived.Outline
import Derived.RegionTactic
import Derived.Shelf.Spec.SlicesGrow
import Derived.StillTailTactics
import Derived.StringKeys
import Derived.Test.YtghdiolnonejaaaGreatDoorRows
import Derived.Test.YtghdiolnonejaaaGreatDoorShelf
import Derived.WalkKit
import Derived.WalkLawsBesides
import Derived.WalkMore
import Derived.WalkSpells
set_option linter.unusedVariables false
set_option linter.unusedSimpArgs false
section
namespace Go.Proofs.YtghdiolnonejaaaGreatDoor
open Go Go.RowKit
attribute [local go_sem ↓] Go.wp_at_zero Go.wp_at_succ
def ResL (x:Pl.Dg) (n m lp nl:Nat) (ms:List Mv) (w:World) (e:Ending) (w':World):Prop := ∃ (A9 B9 AL:Option Addr) (c8 c9 cL:Nat),e = .returned (.tuple #[.agg #[.slice A9 n c8,.slice B9 m c9,.int .i64 (lp:Int)],.slice AL nl cL,.int .i64 0]) ∧ DgAt w' A9 B9 x ∧ MovesAt w' (.slice AL nl cL) ms ∧ Below w.heap.size w w'
theorem down_e (r:Pl.Dg) (hr:Pl.Valid r) (A B:Option Addr) (n cp cq m lp:Nat) (w:World) (hn:n = r.n) (hm:m = 4 * r.n) (hl:lp = r.lp) (hg:DgAt w A B r) (x:Pl.Dg) (ms:List Mv) (n' m' l' nl:Nat) (hx:dnD r = x) (hms:dnM r = ms) (hn':n' = x.n) (hm':m' = 4 * x.n) (hl':l' = x.lp) (hnl:nl = ms.length) :
 Calls Tryz.prog 9 #[.agg #[.slice A n cp,.slice B m cq,.int .i64 (lp:Int)]] w (ResL x n' m' l' nl ms w) := by
 subst hn hl hx hms hn' hm' hl' hnl
 refine (Down_any r hr A B cp cq m w hm hg).mono ?_
 rintro e w' ⟨A9,B9,c8,c9,v,he,hT,hv,hb⟩
 obtain ⟨b,hb2⟩:=hv.at
 obtain ⟨AL,cL,rfl⟩:=owns_slice hb2
 exact ⟨A9,B9,AL,c8,c9,cL,he,hT,⟨b,hb2⟩,hb⟩
end Go.Proofs.YtghdiolnonejaaaGreatDoor
end
