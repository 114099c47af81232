/-
 DERIVED: THE SHELF's CONTRACTS AT THIS DUMP, IN PLAIN WORDS (tools/lay-plain.mjs out of 'TrydShelf.lean', which tools/lay-shelf.mjs wrote): THE SAME DECLARATIONS UNDER THE SAME NAMES: 'import', 'namespace', 'open', 'def', 'theorem' AND NOTHING ELSE: no command of the shelf's: FOR A HAND-IN. Each laying: the table of numbers ('.._ren') and one theorem, a field a fact of the dump's own or the kernel's comparison; each contract: ONE APPLICATION.
-/
import Derived.Shelf.Small.Strs
import Derived.Shelf.Small.Wraps
import Derived.Shelf.Strconv.Atoi
import Derived.Shelf.Strconv.Itoa0
import Derived.Shelf.Strconv.Itoa1
import Derived.Shelf.LaysM
import Derived.Shelf.Strconv.Itoa2
import Derived.Shelf.Strconv.Itoa3
import Derived.Shelf.Strconv.AtoiErrFast
import Derived.Shelf.Strconv.ParseIntEmpty
import Derived.Shelf.Strconv.AtoiFail
import Derived.Shelf.Strconv.Clone
import Derived.Shelf.Strconv.SyntaxError
import Derived.Shelf.LaysC
import Derived.Shelf.Strconv.ToError
import Derived.Shelf.Strconv.AtoiErr
import Derived.Shelf.Strconv.ErrVar
import Derived.Shelf.Strconv.Lower
import Derived.Shelf.Strconv.ParseUint10
import Derived.Shelf.Strconv.ParseUint10Empty
import Derived.Shelf.Strconv.ParseUint10Any
import Derived.Shelf.Strconv.ParseInt10
import Derived.Shelf.Strconv.AtoiLong
import Derived.Shelf.Strconv.AtoiInnerAll
import Derived.Shelf.Strconv.RangeError
import Derived.Shelf.Strconv.ToErrorRange
import Derived.Shelf.Strconv.AtoiAll
import Derived.Shelf.Strconv.ErrVarAll
import Derived.Shelf.Strconv.ParseUintEmpty
import Derived.Shelf.Strconv.ParseUint10b64
import Derived.Shelf.Strconv.ParseUint10b32
import Derived.Shelf.Strconv.ParseUint10b16
import Derived.Shelf.Strconv.ParseUint10b8
import Derived.Shelf.Strconv.ParseUint10At
import Derived.Shelf.Strconv.ParseInt10At64
import Derived.Shelf.Strconv.ParseInt10At32
import Derived.Shelf.Strconv.ParseInt10At16
import Derived.Shelf.Strconv.ParseInt10At8
import Derived.Shelf.Strconv.ParseInt10All
import Derived.Shelf.Strings.Search1
import Derived.Shelf.Strings.Search2
import Derived.Shelf.Strings.Cut
import Derived.Shelf.Strings.Shaped
import Derived.Shelf.Strings.Prefix
import Derived.Shelf.Slices.Equal
import Derived.Ground.Names2Prog
import Derived.Shelf.Slices.SearchI
import Derived.Shelf.Slices.Empties2
import Derived.Test.YtcaoblilkgajoaaDoorProg
namespace Go.Proofs
open Go.Shelf
def Tryd.lays137_ren : Go.Shelf.Ren := ⟨fun | 137 => 48 | 217 => 65 | 266 => 87 | n => n, fun | 9 => 9 | 5 => 5 | 3 => 3 | n => n, fun | n => n⟩
theorem Tryd.lays137 : Go.Proofs.Lays.n137 Tryd.prog Tryd.lays137_ren := {
 mixed := by kernel_rfl
 f137 := Tryd.func48.trans (congrArg some (by kernel_rfl))
 f217 := Tryd.func65.trans (congrArg some (by kernel_rfl))
 f266 := Tryd.func87.trans (congrArg some (by kernel_rfl))
 t3 := Tryd.underlying3
 a3 := Tryd.isAgg3
 z3 := Tryd.sizeOf3
 v3 := Tryd.zeroValue3
 t5 := Tryd.underlying5
 a5 := Tryd.isAgg5
 z5 := Tryd.sizeOf5
 v5 := Tryd.zeroValue5
 t9 := Tryd.underlying9
 a9 := Tryd.isAgg9
 z9 := Tryd.sizeOf9
 v9 := Tryd.zeroValue9 }
open Go.RowKit in
theorem Tryd.strings_IndexByte (s : ByteArray) (c : Int) (w : World) :
 Calls Tryd.prog 48 #[.string s, .int .u8 c] w fun e w' => e = .returned (.int .i64 (Lib.indexByte s.data.toList c.toNat.toUInt8)) ∧ w' = w := Any.strings_IndexByte Tryd.lays137 s c w
def Tryd.lays103_ren : Go.Shelf.Ren := ⟨fun | 103 => 47 | 210 => 64 | 206 => 86 | n => n, fun | 9 => 9 | 4 => 4 | 24 => 71 | 3 => 3 | n => n, fun | n => n⟩
theorem Tryd.lays103 : Go.Proofs.Lays.n103 Tryd.prog Tryd.lays103_ren := {
 mixed := by kernel_rfl
 f103 := Tryd.func47.trans (congrArg some (by kernel_rfl))
 f206 := Tryd.func86.trans (congrArg some (by kernel_rfl))
 f210 := Tryd.func64.trans (congrArg some (by kernel_rfl))
 t3 := Tryd.underlying3
 a3 := Tryd.isAgg3
 z3 := Tryd.sizeOf3
 v3 := Tryd.zeroValue3
 t4 := Tryd.underlying4
 a4 := Tryd.isAgg4
 z4 := Tryd.sizeOf4
 v4 := Tryd.zeroValue4
 t9 := Tryd.underlying9
 a9 := Tryd.isAgg9
 z9 := Tryd.sizeOf9
 v9 := Tryd.zeroValue9
 t24 := Tryd.underlying71
 a24 := Tryd.isAgg71
 z24 := Tryd.sizeOf71
 v24 := Tryd.zeroValue71 }
open Go.RowKit in
theorem Tryd.strings_CutPrefix (s p : ByteArray) (w : World) :
 Calls Tryd.prog 47 #[.string s, .string p] w fun e w' => e = .returned (.tuple #[.string ⟨(Lib.trimPrefix s.data.toList p.data.toList).toArray⟩, .bool (Lib.hasPrefix s.data.toList p.data.toList)]) ∧ w' = w := Any.strings_CutPrefix Tryd.lays103 s p w
def Tryd.lays215_ren : Go.Shelf.Ren := ⟨fun | 215 => 106 | n => n, fun | 3 => 3 | 4 => 4 | n => n, fun | n => n⟩
def Tryd.lays122_ren : Go.Shelf.Ren := ⟨fun | 122 => 91 | 215 => 106 | n => n, fun | 3 => 3 | 4 => 4 | n => n, fun | n => n⟩
theorem Tryd.lays122 : Go.Proofs.Lays.n122 Tryd.prog Tryd.lays122_ren := {
 mixed := by kernel_rfl
 f122 := Tryd.func91.trans (congrArg some (by kernel_rfl))
 f215 := Tryd.func106.trans (congrArg some (by kernel_rfl))
 t3 := Tryd.underlying3
 a3 := Tryd.isAgg3
 z3 := Tryd.sizeOf3
 v3 := Tryd.zeroValue3
 t4 := Tryd.underlying4
 a4 := Tryd.isAgg4
 z4 := Tryd.sizeOf4
 v4 := Tryd.zeroValue4 }
open Go.RowKit in
theorem Tryd.cmp_Compare_int (x y : Int) (w : World) :
 Calls Tryd.prog 91 #[.int .i64 x, .int .i64 y] w fun e w' => e = .returned (.int .i64 (Lib.compareInt x y)) ∧ w' = w := Any.cmp_Compare_int Tryd.lays122 x y w
def Tryd.lays172_ren : Go.Shelf.Ren := ⟨fun | 172 => 63 | 244 => 84 | 245 => 85 | 247 => 95 | 279 => 96 | 280 => 97 | 281 => 98 | 282 => 99 | 287 => 108 | 316 => 109 | 171 => 49 | 205 => 110 | 321 => 117 | 322 => 118 | 243 => 66 | 246 => 88 | 283 => 100 | 284 => 101 | 285 => 102 | 286 => 103 | 129 => 112 | 317 => 111 | 318 => 113 | 319 => 114 | 320 => 115 | 337 => 119 | 338 => 120 | n => n, fun | 9 => 9 | 3 => 3 | 75 => 92 | 76 => 93 | 4 => 4 | 5 => 5 | 167 => 112 | 37 => 113 | 0 => 0 | 85 => 114 | 2 => 2 | 168 => 116 | 53 => 120 | 175 => 130 | 46 => 111 | 210 => 134 | 127 => 141 | 145 => 144 | 143 => 142 | 21 => 21 | 171 => 119 | 173 => 123 | 212 => 137 | 51 => 127 | 20 => 20 | 213 => 138 | 232 => 146 | 233 => 147 | 80 => 148 | n => n, fun | 15 => 1 | 16 => 2 | 17 => 3 | 18 => 4 | 19 => 5 | n => n⟩
def Tryd.laysM246_ren : Go.Shelf.Ren := ⟨fun | 246 => 88 | 283 => 100 | 284 => 101 | 285 => 102 | 286 => 103 | 129 => 112 | 317 => 111 | 318 => 113 | 319 => 114 | 320 => 115 | 337 => 119 | 338 => 120 | n => n, fun | 2 => 2 | 3 => 3 | 9 => 9 | 4 => 4 | 171 => 119 | 0 => 0 | 53 => 120 | 37 => 113 | 5 => 5 | 173 => 123 | 212 => 137 | 51 => 127 | 20 => 20 | 213 => 138 | 46 => 111 | 232 => 146 | 233 => 147 | n => n, fun | 17 => 3 | 18 => 4 | 19 => 5 | n => n⟩
def Tryd.laysM243_ren : Go.Shelf.Ren := ⟨fun | 243 => 66 | 246 => 88 | 283 => 100 | 284 => 101 | 285 => 102 | 286 => 103 | 129 => 112 | 317 => 111 | 318 => 113 | 319 => 114 | 320 => 115 | 337 => 119 | 338 => 120 | n => n, fun | 3 => 3 | 9 => 9 | 2 => 2 | 4 => 4 | 171 => 119 | 0 => 0 | 53 => 120 | 37 => 113 | 5 => 5 | 173 => 123 | 212 => 137 | 51 => 127 | 20 => 20 | 213 => 138 | 46 => 111 | 232 => 146 | 233 => 147 | n => n, fun | 17 => 3 | 18 => 4 | 19 => 5 | n => n⟩
def Tryd.laysM171_ren : Go.Shelf.Ren := ⟨fun | 171 => 49 | 243 => 66 | 246 => 88 | 283 => 100 | 284 => 101 | 285 => 102 | 286 => 103 | 129 => 112 | 317 => 111 | 318 => 113 | 319 => 114 | 320 => 115 | 337 => 119 | 338 => 120 | n => n, fun | 3 => 3 | 9 => 9 | 2 => 2 | 4 => 4 | 171 => 119 | 0 => 0 | 53 => 120 | 37 => 113 | 5 => 5 | 173 => 123 | 212 => 137 | 51 => 127 | 20 => 20 | 213 => 138 | 46 => 111 | 232 => 146 | 233 => 147 | n => n, fun | 17 => 3 | 18 => 4 | 19 => 5 | n => n⟩
theorem Tryd.laysM171 : Go.Proofs.LaysM.n171 Tryd.prog Tryd.laysM171_ren := {
 mixed := by kernel_rfl
 f129 := Tryd.func112.trans (congrArg some (by kernel_rfl))
 f171 := Tryd.func49.trans (congrArg some (by kernel_rfl))
 f243 := Tryd.func66.trans (congrArg some (by kernel_rfl))
 f246 := Tryd.func88.trans (congrArg some (by kernel_rfl))
 f283 := Tryd.func100.trans (congrArg some (by kernel_rfl))
 f284 := Tryd.func101.trans (congrArg some (by kernel_rfl))
 f285 := Tryd.func102.trans (congrArg some (by kernel_rfl))
 f286 := Tryd.func103.trans (congrArg some (by kernel_rfl))
 f317 := Tryd.func111.trans (congrArg some (by kernel_rfl))
 f318 := Tryd.func113.trans (congrArg some (by kernel_rfl))
 f319 := Tryd.func114.trans (congrArg some (by kernel_rfl))
 f320 := Tryd.func115.trans (congrArg some (by kernel_rfl))
 f337 := Tryd.func119.trans (congrArg some (by kernel_rfl))
 f338 := Tryd.func120.trans (congrArg some (by kernel_rfl))
 t0 := Tryd.underlying0
 a0 := Tryd.isAgg0
 z0 := Tryd.sizeOf0
 v0 := Tryd.zeroValue0
 t2 := Tryd.underlying2
 a2 := Tryd.isAgg2
 z2 := Tryd.sizeOf2
 v2 := Tryd.zeroValue2
 t3 := Tryd.underlying3
 a3 := Tryd.isAgg3
 z3 := Tryd.sizeOf3
 v3 := Tryd.zeroValue3
 t4 := Tryd.underlying4
 a4 := Tryd.isAgg4
 z4 := Tryd.sizeOf4
 v4 := Tryd.zeroValue4
 t5 := Tryd.underlying5
 a5 := Tryd.isAgg5
 z5 := Tryd.sizeOf5
 v5 := Tryd.zeroValue5
 t9 := Tryd.underlying9
 a9 := Tryd.isAgg9
 z9 := Tryd.sizeOf9
 v9 := Tryd.zeroValue9
 t20 := Tryd.underlying20
 a20 := Tryd.isAgg20
 z20 := Tryd.sizeOf20
 v20 := Tryd.zeroValue20
 t37 := Tryd.underlying113
 a37 := Tryd.isAgg113
 z37 := Tryd.sizeOf113
 v37 := Tryd.zeroValue113
 t46 := Tryd.underlying111
 a46 := Tryd.isAgg111
 z46 := Tryd.sizeOf111
 v46 := Tryd.zeroValue111
 t51 := Tryd.underlying127
 a51 := Tryd.isAgg127
 z51 := Tryd.sizeOf127
 v51 := Tryd.zeroValue127
 t53 := Tryd.underlying120
 a53 := Tryd.isAgg120
 z53 := Tryd.sizeOf120
 v53 := Tryd.zeroValue120
 t171 := Tryd.underlying119
 a171 := Tryd.isAgg119
 z171 := Tryd.sizeOf119
 v171 := Tryd.zeroValue119
 t173 := Tryd.underlying123
 a173 := Tryd.isAgg123
 z173 := Tryd.sizeOf123
 v173 := Tryd.zeroValue123
 t212 := Tryd.underlying137
 a212 := Tryd.isAgg137
 z212 := Tryd.sizeOf137
 v212 := Tryd.zeroValue137
 t213 := Tryd.underlying138
 a213 := Tryd.isAgg138
 z213 := Tryd.sizeOf138
 t232 := Tryd.underlying146
 a232 := Tryd.isAgg146
 z232 := Tryd.sizeOf146
 v232 := Tryd.zeroValue146
 t233 := Tryd.underlying147
 a233 := Tryd.isAgg147
 z233 := Tryd.sizeOf147
 v233 := Tryd.zeroValue147
 g17 := by kernel_rfl
 g18 := by kernel_rfl
 g19 := by kernel_rfl
 i0 := by kernel_rfl
 i2 := by kernel_rfl
 i3 := by kernel_rfl
 i4 := by kernel_rfl
 i5 := by kernel_rfl
 i9 := by kernel_rfl
 i20 := by kernel_rfl
 i37 := by kernel_rfl
 i46 := by kernel_rfl
 i51 := by kernel_rfl
 i53 := by kernel_rfl
 i171 := by kernel_rfl
 i173 := by kernel_rfl
 i212 := by kernel_rfl
 i232 := by kernel_rfl
 i233 := by kernel_rfl
 m17 := by kernel_rfl
 m18 := by kernel_rfl
 m19 := by kernel_rfl }
open Go.RowKit Go.Sort Go.Lib in
theorem Tryd.strconv_Itoa (n : Int) (h0 : -9223372036854775808 ≤ n) (h1 : n ≤ 9223372036854775807) (w : World) (htab : Lib.TabIs Tryd.prog w "internal/strconv.uint64pow10" .u64 Lib.pow10Tab) :
 Calls Tryd.prog 49 #[.int .i64 n] w fun e w' => e = .returned (.string ⟨(Lib.itoa n).toArray⟩) ∧ ∃ k os, w' = grow (w.drewN k) os := Any.strconv_Itoa Tryd.laysM171 n h0 h1 w htab
def Tryd.laysC172_ren : Go.Shelf.Ren := ⟨fun | 172 => 63 | 244 => 84 | 245 => 85 | 247 => 95 | 279 => 96 | 280 => 97 | 281 => 98 | 282 => 99 | 287 => 108 | 316 => 109 | 171 => 49 | 205 => 110 | 321 => 117 | 322 => 118 | 243 => 66 | 246 => 88 | 283 => 100 | 284 => 101 | 285 => 102 | 286 => 103 | 129 => 112 | 317 => 111 | 318 => 113 | 319 => 114 | 320 => 115 | 337 => 119 | 338 => 120 | n => n, fun | 9 => 9 | 3 => 3 | 75 => 92 | 76 => 93 | 4 => 4 | 5 => 5 | 167 => 112 | 37 => 113 | 0 => 0 | 85 => 114 | 2 => 2 | 168 => 116 | 53 => 120 | 175 => 130 | 46 => 111 | 210 => 134 | 127 => 141 | 145 => 144 | 143 => 142 | 21 => 21 | 171 => 119 | 173 => 123 | 212 => 137 | 51 => 127 | 20 => 20 | 213 => 138 | 232 => 146 | 233 => 147 | 80 => 148 | n => n, fun | 15 => 1 | 16 => 2 | 17 => 3 | 18 => 4 | 19 => 5 | n => n⟩
theorem Tryd.laysC172 : Go.Proofs.LaysC.n172 Tryd.prog Tryd.laysC172_ren := {
 mixed := by kernel_rfl
 f129 := Tryd.func112.trans (congrArg some (by kernel_rfl))
 f171 := Tryd.func49.trans (congrArg some (by kernel_rfl))
 f172 := Tryd.func63.trans (congrArg some (by kernel_rfl))
 f205 := Tryd.func110.trans (congrArg some (by kernel_rfl))
 f243 := Tryd.func66.trans (congrArg some (by kernel_rfl))
 f244 := Tryd.func84.trans (congrArg some (by kernel_rfl))
 f245 := Tryd.func85.trans (congrArg some (by kernel_rfl))
 f246 := Tryd.func88.trans (congrArg some (by kernel_rfl))
 f247 := Tryd.func95.trans (congrArg some (by kernel_rfl))
 f279 := Tryd.func96.trans (congrArg some (by kernel_rfl))
 f280 := Tryd.func97.trans (congrArg some (by kernel_rfl))
 f281 := Tryd.func98.trans (congrArg some (by kernel_rfl))
 f282 := Tryd.func99.trans (congrArg some (by kernel_rfl))
 f283 := Tryd.func100.trans (congrArg some (by kernel_rfl))
 f284 := Tryd.func101.trans (congrArg some (by kernel_rfl))
 f285 := Tryd.func102.trans (congrArg some (by kernel_rfl))
 f286 := Tryd.func103.trans (congrArg some (by kernel_rfl))
 f287 := Tryd.func108.trans (congrArg some (by kernel_rfl))
 f316 := Tryd.func109.trans (congrArg some (by kernel_rfl))
 f317 := Tryd.func111.trans (congrArg some (by kernel_rfl))
 f318 := Tryd.func113.trans (congrArg some (by kernel_rfl))
 f319 := Tryd.func114.trans (congrArg some (by kernel_rfl))
 f320 := Tryd.func115.trans (congrArg some (by kernel_rfl))
 f321 := Tryd.func117.trans (congrArg some (by kernel_rfl))
 f322 := Tryd.func118.trans (congrArg some (by kernel_rfl))
 f337 := Tryd.func119.trans (congrArg some (by kernel_rfl))
 f338 := Tryd.func120.trans (congrArg some (by kernel_rfl))
 t0 := Tryd.underlying0
 a0 := Tryd.isAgg0
 z0 := Tryd.sizeOf0
 v0 := Tryd.zeroValue0
 t2 := Tryd.underlying2
 a2 := Tryd.isAgg2
 z2 := Tryd.sizeOf2
 v2 := Tryd.zeroValue2
 t3 := Tryd.underlying3
 a3 := Tryd.isAgg3
 z3 := Tryd.sizeOf3
 v3 := Tryd.zeroValue3
 t4 := Tryd.underlying4
 a4 := Tryd.isAgg4
 z4 := Tryd.sizeOf4
 v4 := Tryd.zeroValue4
 t5 := Tryd.underlying5
 a5 := Tryd.isAgg5
 z5 := Tryd.sizeOf5
 v5 := Tryd.zeroValue5
 t9 := Tryd.underlying9
 a9 := Tryd.isAgg9
 z9 := Tryd.sizeOf9
 v9 := Tryd.zeroValue9
 t20 := Tryd.underlying20
 a20 := Tryd.isAgg20
 z20 := Tryd.sizeOf20
 v20 := Tryd.zeroValue20
 t21 := Tryd.underlying21
 a21 := Tryd.isAgg21
 z21 := Tryd.sizeOf21
 v21 := Tryd.zeroValue21
 t37 := Tryd.underlying113
 a37 := Tryd.isAgg113
 z37 := Tryd.sizeOf113
 v37 := Tryd.zeroValue113
 t46 := Tryd.underlying111
 a46 := Tryd.isAgg111
 z46 := Tryd.sizeOf111
 v46 := Tryd.zeroValue111
 t51 := Tryd.underlying127
 a51 := Tryd.isAgg127
 z51 := Tryd.sizeOf127
 v51 := Tryd.zeroValue127
 t53 := Tryd.underlying120
 a53 := Tryd.isAgg120
 z53 := Tryd.sizeOf120
 v53 := Tryd.zeroValue120
 t75 := Tryd.underlying92
 a75 := Tryd.isAgg92
 z75 := Tryd.sizeOf92
 v75 := Tryd.zeroValue92
 t76 := Tryd.underlying93
 a76 := Tryd.isAgg93
 z76 := Tryd.sizeOf93
 v76 := Tryd.zeroValue93
 t85 := Tryd.underlying114
 a85 := Tryd.isAgg114
 z85 := Tryd.sizeOf114
 v85 := Tryd.zeroValue114
 t127 := Tryd.underlying141
 a127 := Tryd.isAgg141
 z127 := Tryd.sizeOf141
 v127 := Tryd.zeroValue141
 t143 := Tryd.underlying142
 a143 := Tryd.isAgg142
 z143 := Tryd.sizeOf142
 v143 := Tryd.zeroValue142
 t145 := Tryd.underlying144
 a145 := Tryd.isAgg144
 z145 := Tryd.sizeOf144
 v145 := Tryd.zeroValue144
 t167 := Tryd.underlying112
 a167 := Tryd.isAgg112
 z167 := Tryd.sizeOf112
 v167 := Tryd.zeroValue112
 t168 := Tryd.underlying116
 a168 := Tryd.isAgg116
 z168 := Tryd.sizeOf116
 v168 := Tryd.zeroValue116
 t171 := Tryd.underlying119
 a171 := Tryd.isAgg119
 z171 := Tryd.sizeOf119
 v171 := Tryd.zeroValue119
 t173 := Tryd.underlying123
 a173 := Tryd.isAgg123
 z173 := Tryd.sizeOf123
 v173 := Tryd.zeroValue123
 t175 := Tryd.underlying130
 a175 := Tryd.isAgg130
 z175 := Tryd.sizeOf130
 v175 := Tryd.zeroValue130
 t210 := Tryd.underlying134
 a210 := Tryd.isAgg134
 z210 := Tryd.sizeOf134
 v210 := Tryd.zeroValue134
 t212 := Tryd.underlying137
 a212 := Tryd.isAgg137
 z212 := Tryd.sizeOf137
 v212 := Tryd.zeroValue137
 t213 := Tryd.underlying138
 a213 := Tryd.isAgg138
 z213 := Tryd.sizeOf138
 t232 := Tryd.underlying146
 a232 := Tryd.isAgg146
 z232 := Tryd.sizeOf146
 v232 := Tryd.zeroValue146
 t233 := Tryd.underlying147
 a233 := Tryd.isAgg147
 z233 := Tryd.sizeOf147
 v233 := Tryd.zeroValue147
 g15 := by kernel_rfl
 g16 := by kernel_rfl
 g17 := by kernel_rfl
 g18 := by kernel_rfl
 g19 := by kernel_rfl
 t80 := Tryd.underlying148
 a80 := Tryd.isAgg148
 z80 := Tryd.sizeOf148
 v80 := Tryd.zeroValue148
 i0 := by kernel_rfl
 i2 := by kernel_rfl
 i3 := by kernel_rfl
 i4 := by kernel_rfl
 i5 := by kernel_rfl
 i9 := by kernel_rfl
 i20 := by kernel_rfl
 i21 := by kernel_rfl
 i37 := by kernel_rfl
 i46 := by kernel_rfl
 i51 := by kernel_rfl
 i53 := by kernel_rfl
 i75 := by kernel_rfl
 i76 := by kernel_rfl
 i80 := by kernel_rfl
 i85 := by kernel_rfl
 i127 := by kernel_rfl
 i143 := by kernel_rfl
 i145 := by kernel_rfl
 i167 := by kernel_rfl
 i168 := by kernel_rfl
 i171 := by kernel_rfl
 i173 := by kernel_rfl
 i175 := by kernel_rfl
 i210 := by kernel_rfl
 i212 := by kernel_rfl
 i232 := by kernel_rfl
 i233 := by kernel_rfl
 m15 := by kernel_rfl
 m16 := by kernel_rfl
 m17 := by kernel_rfl
 m18 := by kernel_rfl
 m19 := by kernel_rfl
 c0 := by kernel_rfl
 c2 := by kernel_rfl
 c3 := by kernel_rfl
 c4 := by kernel_rfl
 c5 := by kernel_rfl
 c9 := by kernel_rfl
 c20 := by kernel_rfl
 c21 := by kernel_rfl
 c37 := by kernel_rfl
 c46 := by kernel_rfl
 c51 := by kernel_rfl
 c53 := by kernel_rfl
 c75 := by kernel_rfl
 c76 := by kernel_rfl
 c80 := by kernel_rfl
 c85 := by kernel_rfl
 c127 := by kernel_rfl
 c143 := by kernel_rfl
 c145 := by kernel_rfl
 c167 := by kernel_rfl
 c168 := by kernel_rfl
 c171 := by kernel_rfl
 c173 := by kernel_rfl
 c175 := by kernel_rfl
 c210 := by kernel_rfl
 c212 := by kernel_rfl
 c213 := by kernel_rfl
 c232 := by kernel_rfl
 c233 := by kernel_rfl }
open Go.RowKit in
theorem Tryd.strconv_Atoi_ok (s : ByteArray) (hmax : s.size ≤ 9223372036854775806) (v : Int) (h : Lib.atoiAll s.data.toList = .ok v) (w : World) :
 Calls Tryd.prog 63 #[.string s] w fun e w' => e = .returned (.tuple #[.int .i64 v, .nilIface]) ∧ (w' = w ∨ ∃ t, w' = Lib.bytesWorld w 5 t) := Any.strconv_Atoi_ok Tryd.laysC172 s hmax v h w
open Go.RowKit in
theorem Tryd.strconv_Atoi_syntax (s : ByteArray) (hlim : s.size ≤ 281474976710656) (h : Lib.atoiAll s.data.toList = .syntax) (ev : Value) (w : World) (hv : w.cell? ⟨1, 0, none⟩ = some ev) (hev : ev = .nilIface ∨ ∃ te pe, ev = .iface te pe) :
 Calls Tryd.prog 63 #[.string s] w fun e w' => ∃ N, e = .returned (.tuple #[.int .i64 (0), .iface 116 (.pointer (some ⟨N, 0, none⟩))]) ∧ w.heap.size ≤ N ∧ w'.heap[N]? = some (.cells #[.string ⟨#[65, 116, 111, 105]⟩, .string s, ev] 134 (0, 0)) ∧ Below w.heap.size w w' := Any.strconv_Atoi_syntax Tryd.laysC172 s hlim h ev w hv hev
open Go.RowKit in
theorem Tryd.strconv_Atoi_range (s : ByteArray) (hlim : s.size ≤ 281474976710656) (h : Lib.atoiAll s.data.toList = .range) (ev : Value) (w : World) (hv : w.cell? ⟨2, 0, none⟩ = some ev) (hev : ev = .nilIface ∨ ∃ te pe, ev = .iface te pe) :
 Calls Tryd.prog 63 #[.string s] w fun e w' => ∃ N, e = .returned (.tuple #[.int .i64 (Lib.atoiSat s.data.toList), .iface 116 (.pointer (some ⟨N, 0, none⟩))]) ∧ w.heap.size ≤ N ∧ w'.heap[N]? = some (.cells #[.string ⟨#[65, 116, 111, 105]⟩, .string s, ev] 134 (0, 0)) ∧ Below w.heap.size w w' := Any.strconv_Atoi_range Tryd.laysC172 s hlim h ev w hv hev
def Tryd.lays219_ren : Go.Shelf.Ren := ⟨fun | 219 => 83 | 217 => 65 | 225 => 92 | 224 => 93 | 267 => 94 | 266 => 87 | 314 => 107 | n => n, fun | 9 => 9 | 3 => 3 | 4 => 4 | 5 => 5 | 46 => 111 | 146 => 128 | 51 => 127 | n => n, fun | 1 => 0 | n => n⟩
def Tryd.lays145_ren : Go.Shelf.Ren := ⟨fun | 145 => 44 | 220 => 62 | 219 => 83 | 217 => 65 | 225 => 92 | 224 => 93 | 267 => 94 | 266 => 87 | 314 => 107 | n => n, fun | 9 => 9 | 4 => 4 | 59 => 67 | 3 => 3 | 5 => 5 | 46 => 111 | 146 => 128 | 51 => 127 | n => n, fun | 1 => 0 | n => n⟩
theorem Tryd.lays145 : Go.Proofs.Lays.n145 Tryd.prog Tryd.lays145_ren := {
 mixed := by kernel_rfl
 f145 := Tryd.func44.trans (congrArg some (by kernel_rfl))
 f217 := Tryd.func65.trans (congrArg some (by kernel_rfl))
 f219 := Tryd.func83.trans (congrArg some (by kernel_rfl))
 f220 := Tryd.func62.trans (congrArg some (by kernel_rfl))
 f224 := Tryd.func93.trans (congrArg some (by kernel_rfl))
 f225 := Tryd.func92.trans (congrArg some (by kernel_rfl))
 f266 := Tryd.func87.trans (congrArg some (by kernel_rfl))
 f267 := Tryd.func94.trans (congrArg some (by kernel_rfl))
 f314 := Tryd.func107.trans (congrArg some (by kernel_rfl))
 t3 := Tryd.underlying3
 a3 := Tryd.isAgg3
 z3 := Tryd.sizeOf3
 v3 := Tryd.zeroValue3
 t4 := Tryd.underlying4
 a4 := Tryd.isAgg4
 z4 := Tryd.sizeOf4
 v4 := Tryd.zeroValue4
 t5 := Tryd.underlying5
 a5 := Tryd.isAgg5
 z5 := Tryd.sizeOf5
 v5 := Tryd.zeroValue5
 t9 := Tryd.underlying9
 a9 := Tryd.isAgg9
 z9 := Tryd.sizeOf9
 v9 := Tryd.zeroValue9
 t46 := Tryd.underlying111
 a46 := Tryd.isAgg111
 z46 := Tryd.sizeOf111
 v46 := Tryd.zeroValue111
 t51 := Tryd.underlying127
 a51 := Tryd.isAgg127
 z51 := Tryd.sizeOf127
 v51 := Tryd.zeroValue127
 t59 := Tryd.underlying67
 a59 := Tryd.isAgg67
 z59 := Tryd.sizeOf67
 v59 := Tryd.zeroValue67
 t146 := Tryd.underlying128
 a146 := Tryd.isAgg128
 z146 := Tryd.sizeOf128
 v146 := Tryd.zeroValue128
 g1 := by kernel_rfl }
open Go.RowKit Go.Lib in
theorem Tryd.strings_Cut (s sep : ByteArray) (m : Int) (w : World) (hs : s.size < 4294967281) (hm : w.cell? ⟨0, 0, none⟩ = some (.int .i64 m)) :
 Calls Tryd.prog 44 #[.string s, .string sep] w fun e w' => e = .returned (.tuple #[.string ⟨(Lib.cut s.data.toList sep.data.toList).1.toArray⟩, .string ⟨(Lib.cut s.data.toList sep.data.toList).2.1.toArray⟩, .bool (Lib.cut s.data.toList sep.data.toList).2.2]) ∧ ∃ n, w' = w.drewN n := Any.strings_Cut Tryd.lays145 s sep m w hs hm
def Tryd.laysM145_ren : Go.Shelf.Ren := ⟨fun | 145 => 44 | 220 => 62 | 219 => 83 | 217 => 65 | 225 => 92 | 224 => 93 | 267 => 94 | 266 => 87 | 314 => 107 | n => n, fun | 9 => 9 | 4 => 4 | 59 => 67 | 3 => 3 | 5 => 5 | 46 => 111 | 146 => 128 | 51 => 127 | n => n, fun | 1 => 0 | n => n⟩
theorem Tryd.laysM145 : Go.Proofs.LaysM.n145 Tryd.prog Tryd.laysM145_ren := {
 mixed := by kernel_rfl
 f145 := Tryd.func44.trans (congrArg some (by kernel_rfl))
 f217 := Tryd.func65.trans (congrArg some (by kernel_rfl))
 f219 := Tryd.func83.trans (congrArg some (by kernel_rfl))
 f220 := Tryd.func62.trans (congrArg some (by kernel_rfl))
 f224 := Tryd.func93.trans (congrArg some (by kernel_rfl))
 f225 := Tryd.func92.trans (congrArg some (by kernel_rfl))
 f266 := Tryd.func87.trans (congrArg some (by kernel_rfl))
 f267 := Tryd.func94.trans (congrArg some (by kernel_rfl))
 f314 := Tryd.func107.trans (congrArg some (by kernel_rfl))
 t3 := Tryd.underlying3
 a3 := Tryd.isAgg3
 z3 := Tryd.sizeOf3
 v3 := Tryd.zeroValue3
 t4 := Tryd.underlying4
 a4 := Tryd.isAgg4
 z4 := Tryd.sizeOf4
 v4 := Tryd.zeroValue4
 t5 := Tryd.underlying5
 a5 := Tryd.isAgg5
 z5 := Tryd.sizeOf5
 v5 := Tryd.zeroValue5
 t9 := Tryd.underlying9
 a9 := Tryd.isAgg9
 z9 := Tryd.sizeOf9
 v9 := Tryd.zeroValue9
 t46 := Tryd.underlying111
 a46 := Tryd.isAgg111
 z46 := Tryd.sizeOf111
 v46 := Tryd.zeroValue111
 t51 := Tryd.underlying127
 a51 := Tryd.isAgg127
 z51 := Tryd.sizeOf127
 v51 := Tryd.zeroValue127
 t59 := Tryd.underlying67
 a59 := Tryd.isAgg67
 z59 := Tryd.sizeOf67
 v59 := Tryd.zeroValue67
 t146 := Tryd.underlying128
 a146 := Tryd.isAgg128
 z146 := Tryd.sizeOf128
 v146 := Tryd.zeroValue128
 g1 := by kernel_rfl
 i3 := by kernel_rfl
 i4 := by kernel_rfl
 i5 := by kernel_rfl
 i9 := by kernel_rfl
 i46 := by kernel_rfl
 i51 := by kernel_rfl
 i59 := by kernel_rfl
 i146 := by kernel_rfl
 m1 := by kernel_rfl
 s1_3 := fun w h => Go.Proofs.cell_of_shapedOpen_int (zero := #[.int .i64 0]) (t := 3) h (of_decide_eq_true (by kernel_rfl)) (by kernel_rfl) rfl (by kernel_rfl) (by kernel_rfl) Tryd.underlying3 }
def Tryd.lays111_ren : Go.Shelf.Ren := ⟨fun | 111 => 42 | n => n, fun | 28 => 22 | 3 => 3 | 4 => 4 | 0 => 0 | n => n, fun | n => n⟩
theorem Tryd.lays111 : Go.Proofs.Lays.n111 Tryd.prog Tryd.lays111_ren := {
 mixed := by kernel_rfl
 f111 := Tryd.func42.trans (congrArg some (by kernel_rfl))
 t0 := Tryd.underlying0
 a0 := Tryd.isAgg0
 z0 := Tryd.sizeOf0
 v0 := Tryd.zeroValue0
 t3 := Tryd.underlying3
 a3 := Tryd.isAgg3
 z3 := Tryd.sizeOf3
 v3 := Tryd.zeroValue3
 t4 := Tryd.underlying4
 a4 := Tryd.isAgg4
 z4 := Tryd.sizeOf4
 v4 := Tryd.zeroValue4
 t28 := Tryd.underlying22
 a28 := Tryd.isAgg22
 z28 := Tryd.sizeOf22
 v28 := Tryd.zeroValue22 }
open Go.RowKit Go.Lib in
theorem Tryd.slices_Equal_int (b1 o1 n c b2 o2 m d : Nat) (xs ys : List Int) (w : World) (hx : n ≤ xs.length) (hy : m ≤ ys.length) (hbig : n ≤ 9223372036854775807) (hbig2 : m ≤ 9223372036854775807) (hc1 : ∀ j, j < xs.length → w.cell? ⟨b1, o1 + j, none⟩ = some (.int .i64 (xs.getD j 0))) (hc2 : ∀ j, j < ys.length → w.cell? ⟨b2, o2 + j, none⟩ = some (.int .i64 (ys.getD j 0))) :
 Calls Tryd.prog 42 #[.slice (some ⟨b1, o1, none⟩) n c, .slice (some ⟨b2, o2, none⟩) m d] w fun e w' => e = .returned (.bool (xs.take n == ys.take m)) ∧ ∃ q, w' = w.drewN q := Any.slices_Equal_int Tryd.lays111 b1 o1 n c b2 o2 m d xs ys w hx hy hbig hbig2 hc1 hc2
end Go.Proofs
