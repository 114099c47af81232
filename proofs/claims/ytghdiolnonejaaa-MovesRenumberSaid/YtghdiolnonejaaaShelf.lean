/-
 DERIVED: THE SHELF's CONTRACTS AT THIS DUMP,IN PLAIN WORDS (tools/lay-plain.mjs out of 'TryShelf.lean',which tools/lay-shelf.mjs wrote): THE SAME DECLARATIONS UNDER THE SAME NAMES: 'import','namespace','open','def','theorem' AND NOTHING ELSE: no command of the shelf's: FOR A HAND-IN. Each laying: the table of numbers ('.._ren') and one theorem,a field a fact of the dump's own or the kernel's comparison; each contract: ONE APPLICATION.
-/
import Derived.Shelf.Small.Wraps
import Derived.Shelf.Slices.Turned
import Derived.Shelf.Slices.Equal
import Derived.Ground.Names2Prog
import Derived.Shelf.Slices.Clone
import Derived.Shelf.Slices.SearchI
import Derived.Shelf.Slices.Empties2
import Derived.Ground.SlgnProg
import Derived.Shelf.SlicesE.Clone
import Derived.Test.YtghdiolnonejaaaProg
namespace Go.Proofs
open Go.Shelf
def Try.lays215_ren:Go.Shelf.Ren := ⟨fun | 215 => 152 | n => n,fun | 3 => 3 | 4 => 4 | n => n,fun | n => n⟩
def Try.lays122_ren:Go.Shelf.Ren := ⟨fun | 122 => 149 | 215 => 152 | n => n,fun | 3 => 3 | 4 => 4 | n => n,fun | n => n⟩
theorem Try.lays122:Go.Proofs.Lays.n122 Try.prog Try.lays122_ren := {
 mixed := by kernel_rfl
 f122 := Try.func149.trans (congrArg some (by kernel_rfl))
 f215 := Try.func152.trans (congrArg some (by kernel_rfl))
 t3 := Try.underlying3
 a3 := Try.isAgg3
 z3 := Try.sizeOf3
 v3 := Try.zeroValue3
 t4 := Try.underlying4
 a4 := Try.isAgg4
 z4 := Try.sizeOf4
 v4 := Try.zeroValue4 }
open Go.RowKit in
theorem Try.cmp_Compare_int (x y:Int) (w:World) :
 Calls Try.prog 149 #[.int .i64 x,.int .i64 y] w fun e w' => e = .returned (.int .i64 (Lib.compareInt x y)) ∧ w' = w := Any.cmp_Compare_int Try.lays122 x y w
def Try.lays107_ren:Go.Shelf.Ren := ⟨fun | 107 => 131 | 108 => 147 | n => n,fun | 28 => 22 | 3 => 3 | 4 => 4 | 0 => 0 | n => n,fun | n => n⟩
theorem Try.lays107:Go.Proofs.Lays.n107 Try.prog Try.lays107_ren := {
 mixed := by kernel_rfl
 f107 := Try.func131.trans (congrArg some (by kernel_rfl))
 f108 := Try.func147.trans (congrArg some (by kernel_rfl))
 t0 := Try.underlying0
 a0 := Try.isAgg0
 z0 := Try.sizeOf0
 v0 := Try.zeroValue0
 t3 := Try.underlying3
 a3 := Try.isAgg3
 z3 := Try.sizeOf3
 v3 := Try.zeroValue3
 t4 := Try.underlying4
 a4 := Try.isAgg4
 z4 := Try.sizeOf4
 v4 := Try.zeroValue4
 t28 := Try.underlying22
 a28 := Try.isAgg22
 z28 := Try.sizeOf22
 v28 := Try.zeroValue22 }
open Go.Lib in
theorem Try.slices_Contains_int (b off n c:Nat) (zs:List Int) (x:Int) (w:World) (hz:n ≤ zs.length) (hbig:n ≤ 9223372036854775807) (hc:∀ j,j < zs.length → w.cell? ⟨b,off + j,none⟩ = some (.int .i64 (zs.getD j 0))) :
 Calls Try.prog 131 #[.slice (some ⟨b,off,none⟩) n c,.int .i64 x] w fun e w' => e = .returned (.bool ((zs.take n).contains x)) ∧ w' = w := Any.slices_Contains_int Try.lays107 b off n c zs x w hz hbig hc
def Try.lays111_ren:Go.Shelf.Ren := ⟨fun | 111 => 56 | n => n,fun | 28 => 22 | 3 => 3 | 4 => 4 | 0 => 0 | n => n,fun | n => n⟩
theorem Try.lays111:Go.Proofs.Lays.n111 Try.prog Try.lays111_ren := {
 mixed := by kernel_rfl
 f111 := Try.func56.trans (congrArg some (by kernel_rfl))
 t0 := Try.underlying0
 a0 := Try.isAgg0
 z0 := Try.sizeOf0
 v0 := Try.zeroValue0
 t3 := Try.underlying3
 a3 := Try.isAgg3
 z3 := Try.sizeOf3
 v3 := Try.zeroValue3
 t4 := Try.underlying4
 a4 := Try.isAgg4
 z4 := Try.sizeOf4
 v4 := Try.zeroValue4
 t28 := Try.underlying22
 a28 := Try.isAgg22
 z28 := Try.sizeOf22
 v28 := Try.zeroValue22 }
open Go.RowKit Go.Lib in
theorem Try.slices_Equal_int (b1 o1 n c b2 o2 m d:Nat) (xs ys:List Int) (w:World) (hx:n ≤ xs.length) (hy:m ≤ ys.length) (hbig:n ≤ 9223372036854775807) (hbig2:m ≤ 9223372036854775807) (hc1:∀ j,j < xs.length → w.cell? ⟨b1,o1 + j,none⟩ = some (.int .i64 (xs.getD j 0))) (hc2:∀ j,j < ys.length → w.cell? ⟨b2,o2 + j,none⟩ = some (.int .i64 (ys.getD j 0))) :
 Calls Try.prog 56 #[.slice (some ⟨b1,o1,none⟩) n c,.slice (some ⟨b2,o2,none⟩) m d] w fun e w' => e = .returned (.bool (xs.take n == ys.take m)) ∧ ∃ q,w' = w.drewN q := Any.slices_Equal_int Try.lays111 b1 o1 n c b2 o2 m d xs ys w hx hy hbig hbig2 hc1 hc2
def Try.laysNm215_ren:Go.Shelf.Ren := ⟨fun | 15 => 65 | n => n,fun | 22 => 22 | 3 => 3 | 4 => 4 | n => n,fun | n => n⟩
theorem Try.laysNm215:Go.Proofs.Lays2.n15 Try.prog Try.laysNm215_ren := {
 mixed := by kernel_rfl
 f15 := Try.func65.trans (congrArg some (by kernel_rfl))
 t3 := Try.underlying3
 a3 := Try.isAgg3
 z3 := Try.sizeOf3
 v3 := Try.zeroValue3
 t4 := Try.underlying4
 a4 := Try.isAgg4
 z4 := Try.sizeOf4
 v4 := Try.zeroValue4
 t22 := Try.underlying22
 a22 := Try.isAgg22
 z22 := Try.sizeOf22
 v22 := Try.zeroValue22
 i3 := by kernel_rfl }
open Go.RowKit Go.Lib in
theorem Try.slices_Clone_int (b off n c:Nat) (zs:List Int) (w:World) (hz:n ≤ zs.length) (hbig:n * 8 ≤ 140737488355328) (hc:∀ j,j < zs.length → w.cell? ⟨b,off + j,none⟩ = some (.int .i64 (zs.getD j 0))) :
 Calls Try.prog 65 #[.slice (some ⟨b,off,none⟩) n c] w fun e w' => ∃ v',e = .returned v' ∧ w'.ownsRow w.heap.size 3 1 v' n ((zs.take n).map (Value.int .i64)) ∧ v' ≠ .slice none 0 0 ∧ Below w.heap.size w w' := Any.slices_Clone_int Try.laysNm215 b off n c zs w hz hbig hc
end Go.Proofs
