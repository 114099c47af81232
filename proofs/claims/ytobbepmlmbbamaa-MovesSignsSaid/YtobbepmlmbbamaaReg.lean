/-
  A region that draws its order, walked once, its worlds being a class that every operation and every callee of it keeps.
-/
import Derived.Test.YtobbepmlmbbamaaMem
import Derived.Deep.QuietTactic
import Derived.BigQuiet
namespace Go.Proofs.Ytobbepmlmbbamaa
open Go.RowKit

/-- A world of the class C. -/
structure Cls (C : World → Prop) where
  w : World
  ok : C w

theorem wp_region_cls {P : Program} (C : World → Prop) {id : Nat} {Q : Exit → Act → World → Prop} {a : Act} {w : World} {l : List Oper} (hm : P.follows .mixedOrders = true) (hB : Region.lexB .any l.toArray = true)
    (hC : C { w with drawn := w.drawn + 1 })
    (h : Nonempty (Cls C) → wpQuiet P l.toArray (fun w' => ∃ p : Cls C, w' = p.w) (fun a' => ∀ w', (∃ p : Cls C, w' = p.w) → Q .normal a' w') l a) : (Code.region id l.toArray true).wp P Q a w :=
  wp_region_quiet (C := fun w' => ∃ p : Cls C, w' = p.w) hm hB ⟨⟨_, hC⟩, rfl⟩ (by simpa using h ⟨⟨_, hC⟩⟩)

/-- A callee's contract that keeps the class. -/
theorem calls_cls {P : Program} {C : World → Prop} {f : FuncId} {args : Array Value} {w : World} {v : Value} {R : Ending → World → Prop} (h : Calls P f args w R) (hR : ∀ e w', R e w' → e = .returned v ∧ C w') :
    Calls P f args w fun e w'' => e = .returned v ∧ ∃ p : Cls C, w'' = p.w :=
  h.mono fun e w' hr => let ⟨h1, h2⟩ := hR e w' hr; ⟨h1, ⟨w', h2⟩, rfl⟩
end Go.Proofs.Ytobbepmlmbbamaa
