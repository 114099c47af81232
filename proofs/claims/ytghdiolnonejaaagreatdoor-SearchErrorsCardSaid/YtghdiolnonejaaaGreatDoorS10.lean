/-
 The texts Vh.
-/
import Derived.BigQuiet
import Derived.Deep.AppendLies
import Derived.Deep.CutBlock
import Derived.Deep.CutRange
import Derived.Deep.DeepCutAuto
import Derived.Deep.DrawnRows
import Derived.Deep.Light
import Derived.Deep.LoopGhost
import Derived.Deep.QuietTactic
import Derived.Deep.RegionHeld3
import Derived.Deep.RegionLaw
import Derived.Deep.RegionWith
import Derived.Laws.AppendOwn
import Derived.Laws.MakeOwn
import Derived.Laws.OwnMore
import Derived.Laws.Rows
import Derived.Laws.Slices
import Derived.Maps.AppendAt
import Derived.Outline
import Derived.RegionTactic
import Derived.Shelf.Spec.SlicesGrow
import Derived.StillTailTactics
import Derived.Test.YtghdiolnonejaaaGreatDoorRows
import Derived.WalkKit
import Derived.WalkLawsBesides
import Derived.WalkSpells
set_option linter.unusedVariables false
set_option linter.unusedSimpArgs false
section
namespace Go.Proofs.YtghdiolnonejaaaGreatDoor
open Go Go.RowKit
attribute [local go_sem ↓] Go.wp_at_zero Go.wp_at_succ
theorem pieceInfo:(Tryz.prog.info? 146).map (fun i => (i.zero,i.size,i.bytes)) = some (some (.agg #[.slice none 0 0,.slice none 0 0,.int .i64 0]),3,56) := by kernel_rfl
theorem three_news (W:World) (g:Nat) (h:g = W.heap.size) (a b c:Value):∀ (j:Nat) (u:Value),[a,b,c][j]? = some u → (W.alloc (.cells #[a,b,c] 146)).cell? ((⟨g,0,none⟩:Addr).add j) = some u := by
 subst h
 exact World.news_of_block (cs := #[a,b,c]) (t := 146) (fr := (0,0)) (heap_alloc_new W _)
end Go.Proofs.YtghdiolnonejaaaGreatDoor
end
