/-
 The text Xm.
-/
import Derived.Test.YtobbepmlmbbamaaCXh
import Derived.Test.YtobbepmlmbbamaaCXl
import Derived.Test.YtobbepmlmbbamaaRows
import Derived.ProofKit
import Derived.OpenShut
import Derived.Deep.Slices
import Derived.Deep.Fields
import Derived.ChangeSame
import Derived.ChangeSlices
import Derived.Deep.Strs
set_option linter.unusedVariables false
set_option linter.unusedSimpArgs false
section
namespace Go.Proofs.Ytobbepmlmbbamaa
open Go Go.RowKit
theorem small_any (A B:Option Addr) (n q cp cq:Nat) (l:Value) (w:World):Calls Try.prog 21 #[.agg #[.slice A n cp,.slice B q cq,l]] w fun e w' => (e = .returned (.int .i64 0) ∨ e = .returned (.int .i64 1)) ∧ Below w.heap.size w w' := by
 by_cases h1:(12:Int) < (n:Int)
 ·go_enter Try.func21,Try.ntmps21
  go_wp2
  go_ret
  exact ⟨.inl rfl,(Below.refl _ _).alloc (Nat.le_refl _) _⟩
 ·by_cases h2:(60:Int) < (q:Int)
  ·go_enter Try.func21,Try.ntmps21
   go_wp2
   go_ret
   exact ⟨.inl rfl,(Below.refl _ _).alloc (Nat.le_refl _) _⟩
  ·go_enter Try.func21,Try.ntmps21
   go_wp2
   go_ret
   exact ⟨.inr rfl,(Below.refl _ _).alloc (Nat.le_refl _) _⟩
end Go.Proofs.Ytobbepmlmbbamaa
end
