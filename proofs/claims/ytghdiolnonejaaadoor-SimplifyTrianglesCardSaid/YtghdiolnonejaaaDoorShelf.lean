/-
 DERIVED: THE SHELF's CONTRACTS AT THIS DUMP,IN PLAIN WORDS (tools/lay-plain.mjs out of 'TrydShelf.lean',which tools/lay-shelf.mjs wrote): THE SAME DECLARATIONS UNDER THE SAME NAMES: 'import','namespace','open','def','theorem' AND NOTHING ELSE: no command of the shelf's: FOR A HAND-IN. Each laying: the table of numbers ('.._ren') and one theorem,a field a fact of the dump's own or the kernel's comparison; each contract: ONE APPLICATION.
-/
import Derived.Shelf.Strings.Builder1
import Derived.Shelf.Small.Wraps
import Derived.Shelf.Strings.BuilderF
import Derived.Shelf.Strings.BuilderK
import Derived.Shelf.Strconv.Itoa0
import Derived.Shelf.Strconv.Itoa1
import Derived.Shelf.LaysM
import Derived.Shelf.Strconv.Itoa2
import Derived.Shelf.Strconv.Itoa3
import Derived.Shelf.Strings.BuilderCap
import Derived.Shelf.Slices.Turned
import Derived.Ground.Names2Prog
import Derived.Shelf.Slices.Clone
import Derived.Shelf.Slices.SearchI
import Derived.Ground.SlgnProg
import Derived.Shelf.SlicesE.Clone
import Derived.Test.YtghdiolnonejaaaDoorProg
namespace Go.Proofs
open Go.Shelf
def Tryd.lays169_ren:Go.Shelf.Ren := ⟨fun | 169 => 60 | n => n,fun | 70 => 90 | 9 => 9 | 0 => 0 | 72 => 93 | 37 => 91 | 127 => 112 | 3 => 3 | 5 => 5 | n => n,fun | n => n⟩
theorem Tryd.lays169:Go.Proofs.Lays.n169 Tryd.prog Tryd.lays169_ren := {
 mixed := by kernel_rfl
 f169 := Tryd.func60.trans (congrArg some (by kernel_rfl))
 t0 := Tryd.underlying0
 a0 := Tryd.isAgg0
 z0 := Tryd.sizeOf0
 v0 := Tryd.zeroValue0
 t3 := Tryd.underlying3
 a3 := Tryd.isAgg3
 z3 := Tryd.sizeOf3
 v3 := Tryd.zeroValue3
 t9 := Tryd.underlying9
 a9 := Tryd.isAgg9
 z9 := Tryd.sizeOf9
 v9 := Tryd.zeroValue9
 t37 := Tryd.underlying91
 a37 := Tryd.isAgg91
 z37 := Tryd.sizeOf91
 v37 := Tryd.zeroValue91
 t70 := Tryd.underlying90
 a70 := Tryd.isAgg90
 z70 := Tryd.sizeOf90
 v70 := Tryd.zeroValue90
 t72 := Tryd.underlying93
 a72 := Tryd.isAgg93
 z72 := Tryd.sizeOf93
 v72 := Tryd.zeroValue93
 t127 := Tryd.underlying112
 a127 := Tryd.isAgg112
 z127 := Tryd.sizeOf112
 v127 := Tryd.zeroValue112 }
theorem Tryd.Builder_Extra_169:Builder.Extra Tryd.prog Tryd.lays169_ren := {
 sizeBuilder := by kernel_rfl
 liesBuilder := by kernel_rfl
 t5 := Tryd.underlying5
 a5 := Tryd.isAgg5
 z5 := Tryd.sizeOf5
 v5 := Tryd.zeroValue5
 infoByte := by kernel_rfl
 cellsByte := by kernel_rfl
 sizeByte := by kernel_rfl
 neB5 := by decide }
def Tryd.lays122_ren:Go.Shelf.Ren := ⟨fun | 122 => 85 | 215 => 92 | n => n,fun | 3 => 3 | 4 => 4 | n => n,fun | n => n⟩
theorem Tryd.lays122:Go.Proofs.Lays.n122 Tryd.prog Tryd.lays122_ren := {
 mixed := by kernel_rfl
 f122 := Tryd.func85.trans (congrArg some (by kernel_rfl))
 f215 := Tryd.func92.trans (congrArg some (by kernel_rfl))
 t3 := Tryd.underlying3
 a3 := Tryd.isAgg3
 z3 := Tryd.sizeOf3
 v3 := Tryd.zeroValue3
 t4 := Tryd.underlying4
 a4 := Tryd.isAgg4
 z4 := Tryd.sizeOf4
 v4 := Tryd.zeroValue4 }
open Go.RowKit in
theorem Tryd.cmp_Compare_int (x y:Int) (w:World) :
 Calls Tryd.prog 85 #[.int .i64 x,.int .i64 y] w fun e w' => e = .returned (.int .i64 (Lib.compareInt x y)) ∧ w' = w := Any.cmp_Compare_int Tryd.lays122 x y w
open Go.RowKit in
theorem Tryd.Builder_String_any_f (B b:Nat) (l:List UInt8) (w:World) (h:Lib.IsBuilderF 93 5 B b (Lib.byteCells l) w) (hBw:B ≤ w.heap.size) :
 Calls Tryd.prog 60 #[.pointer (some ⟨b,0,none⟩)] w fun e w' => e = .returned (.string ⟨l.toArray⟩) ∧ (Lib.IsBuilderF 93 5 B b (Lib.byteCells l) w' ∧ Below B w w') := Any.Builder_String_any_f Tryd.lays169 Tryd.Builder_Extra_169 B b l w h hBw
def Tryd.laysM171_ren:Go.Shelf.Ren := ⟨fun | 171 => 59 | 243 => 74 | 246 => 83 | 283 => 86 | 284 => 87 | 285 => 88 | 286 => 89 | 129 => 94 | 317 => 93 | 318 => 95 | 319 => 96 | 320 => 97 | 337 => 99 | 338 => 100 | n => n,fun | 3 => 3 | 9 => 9 | 2 => 2 | 4 => 4 | 171 => 124 | 0 => 0 | 53 => 125 | 37 => 91 | 5 => 5 | 173 => 128 | 212 => 133 | 51 => 134 | 20 => 20 | 213 => 135 | 46 => 136 | 232 => 139 | 233 => 140 | n => n,fun | 17 => 0 | 18 => 1 | 19 => 2 | n => n⟩
theorem Tryd.laysM171:Go.Proofs.LaysM.n171 Tryd.prog Tryd.laysM171_ren := {
 mixed := by kernel_rfl
 f129 := Tryd.func94.trans (congrArg some (by kernel_rfl))
 f171 := Tryd.func59.trans (congrArg some (by kernel_rfl))
 f243 := Tryd.func74.trans (congrArg some (by kernel_rfl))
 f246 := Tryd.func83.trans (congrArg some (by kernel_rfl))
 f283 := Tryd.func86.trans (congrArg some (by kernel_rfl))
 f284 := Tryd.func87.trans (congrArg some (by kernel_rfl))
 f285 := Tryd.func88.trans (congrArg some (by kernel_rfl))
 f286 := Tryd.func89.trans (congrArg some (by kernel_rfl))
 f317 := Tryd.func93.trans (congrArg some (by kernel_rfl))
 f318 := Tryd.func95.trans (congrArg some (by kernel_rfl))
 f319 := Tryd.func96.trans (congrArg some (by kernel_rfl))
 f320 := Tryd.func97.trans (congrArg some (by kernel_rfl))
 f337 := Tryd.func99.trans (congrArg some (by kernel_rfl))
 f338 := Tryd.func100.trans (congrArg some (by kernel_rfl))
 t0 := Tryd.underlying0
 a0 := Tryd.isAgg0
 z0 := Tryd.sizeOf0
 v0 := Tryd.zeroValue0
 t2 := Tryd.underlying2
 a2 := Tryd.isAgg2
 z2 := Tryd.sizeOf2
 v2 := Tryd.zeroValue2
 t3 := Tryd.underlying3
 a3 := Tryd.isAgg3
 z3 := Tryd.sizeOf3
 v3 := Tryd.zeroValue3
 t4 := Tryd.underlying4
 a4 := Tryd.isAgg4
 z4 := Tryd.sizeOf4
 v4 := Tryd.zeroValue4
 t5 := Tryd.underlying5
 a5 := Tryd.isAgg5
 z5 := Tryd.sizeOf5
 v5 := Tryd.zeroValue5
 t9 := Tryd.underlying9
 a9 := Tryd.isAgg9
 z9 := Tryd.sizeOf9
 v9 := Tryd.zeroValue9
 t20 := Tryd.underlying20
 a20 := Tryd.isAgg20
 z20 := Tryd.sizeOf20
 v20 := Tryd.zeroValue20
 t37 := Tryd.underlying91
 a37 := Tryd.isAgg91
 z37 := Tryd.sizeOf91
 v37 := Tryd.zeroValue91
 t46 := Tryd.underlying136
 a46 := Tryd.isAgg136
 z46 := Tryd.sizeOf136
 v46 := Tryd.zeroValue136
 t51 := Tryd.underlying134
 a51 := Tryd.isAgg134
 z51 := Tryd.sizeOf134
 v51 := Tryd.zeroValue134
 t53 := Tryd.underlying125
 a53 := Tryd.isAgg125
 z53 := Tryd.sizeOf125
 v53 := Tryd.zeroValue125
 t171 := Tryd.underlying124
 a171 := Tryd.isAgg124
 z171 := Tryd.sizeOf124
 v171 := Tryd.zeroValue124
 t173 := Tryd.underlying128
 a173 := Tryd.isAgg128
 z173 := Tryd.sizeOf128
 v173 := Tryd.zeroValue128
 t212 := Tryd.underlying133
 a212 := Tryd.isAgg133
 z212 := Tryd.sizeOf133
 v212 := Tryd.zeroValue133
 t213 := Tryd.underlying135
 a213 := Tryd.isAgg135
 z213 := Tryd.sizeOf135
 t232 := Tryd.underlying139
 a232 := Tryd.isAgg139
 z232 := Tryd.sizeOf139
 v232 := Tryd.zeroValue139
 t233 := Tryd.underlying140
 a233 := Tryd.isAgg140
 z233 := Tryd.sizeOf140
 v233 := Tryd.zeroValue140
 g17 := by kernel_rfl
 g18 := by kernel_rfl
 g19 := by kernel_rfl
 i0 := by kernel_rfl
 i2 := by kernel_rfl
 i3 := by kernel_rfl
 i4 := by kernel_rfl
 i5 := by kernel_rfl
 i9 := by kernel_rfl
 i20 := by kernel_rfl
 i37 := by kernel_rfl
 i46 := by kernel_rfl
 i51 := by kernel_rfl
 i53 := by kernel_rfl
 i171 := by kernel_rfl
 i173 := by kernel_rfl
 i212 := by kernel_rfl
 i232 := by kernel_rfl
 i233 := by kernel_rfl
 m17 := by kernel_rfl
 m18 := by kernel_rfl
 m19 := by kernel_rfl }
open Go.RowKit Go.Sort Go.Lib in
theorem Tryd.strconv_Itoa (n : Int) (h0 : -9223372036854775808 ≤ n) (h1 : n ≤ 9223372036854775807) (w : World) (htab : Lib.TabIs Tryd.prog w "internal/strconv.uint64pow10" .u64 Lib.pow10Tab) :
 Calls Tryd.prog 59 #[.int .i64 n] w fun e w' => e = .returned (.string ⟨(Lib.itoa n).toArray⟩) ∧ ∃ k os,w' = grow (w.drewN k) os := Any.strconv_Itoa Tryd.laysM171 n h0 h1 w htab
def Tryd.lays107_ren:Go.Shelf.Ren := ⟨fun | 107 => 64 | 108 => 76 | n => n,fun | 28 => 22 | 3 => 3 | 4 => 4 | 0 => 0 | n => n,fun | n => n⟩
theorem Tryd.lays107:Go.Proofs.Lays.n107 Tryd.prog Tryd.lays107_ren := {
 mixed := by kernel_rfl
 f107 := Tryd.func64.trans (congrArg some (by kernel_rfl))
 f108 := Tryd.func76.trans (congrArg some (by kernel_rfl))
 t0 := Tryd.underlying0
 a0 := Tryd.isAgg0
 z0 := Tryd.sizeOf0
 v0 := Tryd.zeroValue0
 t3 := Tryd.underlying3
 a3 := Tryd.isAgg3
 z3 := Tryd.sizeOf3
 v3 := Tryd.zeroValue3
 t4 := Tryd.underlying4
 a4 := Tryd.isAgg4
 z4 := Tryd.sizeOf4
 v4 := Tryd.zeroValue4
 t28 := Tryd.underlying22
 a28 := Tryd.isAgg22
 z28 := Tryd.sizeOf22
 v28 := Tryd.zeroValue22 }
open Go.Lib in
theorem Tryd.slices_Contains_int (b off n c:Nat) (zs:List Int) (x:Int) (w:World) (hz:n ≤ zs.length) (hbig:n ≤ 9223372036854775807) (hc:∀ j,j < zs.length → w.cell? ⟨b,off + j,none⟩ = some (.int .i64 (zs.getD j 0))) :
 Calls Tryd.prog 64 #[.slice (some ⟨b,off,none⟩) n c,.int .i64 x] w fun e w' => e = .returned (.bool ((zs.take n).contains x)) ∧ w' = w := Any.slices_Contains_int Tryd.lays107 b off n c zs x w hz hbig hc
def Tryd.laysNm215_ren:Go.Shelf.Ren := ⟨fun | 15 => 31 | n => n,fun | 22 => 22 | 3 => 3 | 4 => 4 | n => n,fun | n => n⟩
theorem Tryd.laysNm215:Go.Proofs.Lays2.n15 Tryd.prog Tryd.laysNm215_ren := {
 mixed := by kernel_rfl
 f15 := Tryd.func31.trans (congrArg some (by kernel_rfl))
 t3 := Tryd.underlying3
 a3 := Tryd.isAgg3
 z3 := Tryd.sizeOf3
 v3 := Tryd.zeroValue3
 t4 := Tryd.underlying4
 a4 := Tryd.isAgg4
 z4 := Tryd.sizeOf4
 v4 := Tryd.zeroValue4
 t22 := Tryd.underlying22
 a22 := Tryd.isAgg22
 z22 := Tryd.sizeOf22
 v22 := Tryd.zeroValue22
 i3 := by kernel_rfl }
open Go.RowKit Go.Lib in
theorem Tryd.slices_Clone_int (b off n c:Nat) (zs:List Int) (w:World) (hz:n ≤ zs.length) (hbig:n * 8 ≤ 140737488355328) (hc:∀ j,j < zs.length → w.cell? ⟨b,off + j,none⟩ = some (.int .i64 (zs.getD j 0))) :
 Calls Tryd.prog 31 #[.slice (some ⟨b,off,none⟩) n c] w fun e w' => ∃ v',e = .returned v' ∧ w'.ownsRow w.heap.size 3 1 v' n ((zs.take n).map (Value.int .i64)) ∧ v' ≠ .slice none 0 0 ∧ Below w.heap.size w w' := Any.slices_Clone_int Tryd.laysNm215 b off n c zs w hz hbig hc
open Go.RowKit Go.Lib in
theorem Tryd.slices_Clone_int_nil (n c:Nat) (w:World) :
 Calls Tryd.prog 31 #[.slice none n c] w fun e w' => e = .returned (.slice none 0 0) ∧ w' = w := Any.slices_Clone_int_nil Tryd.laysNm215 n c w
open Go.RowKit Go.Lib in
theorem Tryd.slices_Clone_int_zero (a:Addr) (c:Nat) (w:World) :
 Calls Tryd.prog 31 #[.slice (some a) 0 c] w fun e w' => ∃ v',e = .returned v' ∧ w'.ownsRow w.heap.size 3 1 v' 0 [] ∧ v' ≠ .slice none 0 0 ∧ Below w.heap.size w w' := Any.slices_Clone_int_zero Tryd.laysNm215 a c w
end Go.Proofs
