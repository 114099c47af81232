/-
 DERIVED: THE SHELF's CONTRACTS AT THIS DUMP, IN PLAIN WORDS (tools/lay-plain.mjs out of 'TryzShelf.lean', which tools/lay-shelf.mjs wrote): THE SAME DECLARATIONS UNDER THE SAME NAMES: 'import', 'namespace', 'open', 'def', 'theorem' AND NOTHING ELSE: no command of the shelf's: FOR A HAND-IN. Each laying: the table of numbers ('.._ren') and one theorem, a field a fact of the dump's own or the kernel's comparison; each contract: ONE APPLICATION.
-/
import Derived.Shelf.Strings.Builder1
import Derived.Shelf.Strings.Builder2
import Derived.Shelf.Strings.OnBuilder
import Derived.Shelf.Small.Wraps
import Derived.Shelf.Strings.BuilderF
import Derived.Shelf.Strings.BuilderK
import Derived.Shelf.Utf8.RuneCount
import Derived.Shelf.Strings.Builder2Cap
import Derived.Shelf.Strconv.Atoi
import Derived.Shelf.Strconv.Itoa0
import Derived.Shelf.Strconv.Itoa1
import Derived.Shelf.LaysM
import Derived.Shelf.Strconv.Itoa2
import Derived.Shelf.Strconv.Itoa3
import Derived.Shelf.Strconv.AtoiErrFast
import Derived.Shelf.Strconv.ParseIntEmpty
import Derived.Shelf.Strconv.AtoiFail
import Derived.Shelf.Strconv.Clone
import Derived.Shelf.Strconv.SyntaxError
import Derived.Shelf.LaysC
import Derived.Shelf.Strconv.ToError
import Derived.Shelf.Strconv.AtoiErr
import Derived.Shelf.Strconv.ErrVar
import Derived.Shelf.Strconv.Lower
import Derived.Shelf.Strconv.ParseUint10
import Derived.Shelf.Strconv.ParseUint10Empty
import Derived.Shelf.Strconv.ParseUint10Any
import Derived.Shelf.Strconv.ParseInt10
import Derived.Shelf.Strconv.AtoiLong
import Derived.Shelf.Strconv.AtoiInnerAll
import Derived.Shelf.Strconv.RangeError
import Derived.Shelf.Strconv.ToErrorRange
import Derived.Shelf.Strconv.AtoiAll
import Derived.Shelf.Strconv.ErrVarAll
import Derived.Shelf.Strconv.ParseUintEmpty
import Derived.Shelf.Strconv.ParseUint10b64
import Derived.Shelf.Strconv.ParseUint10b32
import Derived.Shelf.Strconv.ParseUint10b16
import Derived.Shelf.Strconv.ParseUint10b8
import Derived.Shelf.Strconv.ParseUint10At
import Derived.Shelf.Strconv.ParseInt10At64
import Derived.Shelf.Strconv.ParseInt10At32
import Derived.Shelf.Strconv.ParseInt10At16
import Derived.Shelf.Strconv.ParseInt10At8
import Derived.Shelf.Strconv.ParseInt10All
import Derived.Shelf.Strings.Search1
import Derived.Shelf.Strings.Search2
import Derived.Shelf.Strings.Search3
import Derived.Shelf.Strings.Cut
import Derived.Shelf.Strings.Count
import Derived.Shelf.Strings.Shaped
import Derived.Shelf.Strings.Split
import Derived.Shelf.Strings.SplitShaped
import Derived.Shelf.Unicode.Decode
import Derived.Shelf.Strings.RuneCount
import Derived.Shelf.Strings.Explode
import Derived.Shelf.Unicode.DecodeSlow
import Derived.Shelf.Unicode.DecodeAny
import Derived.Shelf.Strings.BuilderCap
import Derived.Shelf.Slices.Turned
import Derived.Shelf.Slices.Equal
import Derived.Ground.Names2Prog
import Derived.Shelf.Slices.Clone
import Derived.Shelf.Slices.SearchI
import Derived.Shelf.Slices.Empties2
import Derived.Test.YtlffopdoeobgaaaGreatDoorProg
namespace Go.Proofs
open Go.Shelf
def Tryz.lays169_ren : Go.Shelf.Ren := ⟨fun | 169 => 56 | n => n, fun | 70 => 77 | 9 => 9 | 0 => 0 | 72 => 79 | 37 => 39 | 127 => 134 | 3 => 3 | 5 => 5 | n => n, fun | n => n⟩
theorem Tryz.lays169 : Go.Proofs.Lays.n169 Tryz.prog Tryz.lays169_ren := {
 mixed := by kernel_rfl
 f169 := Tryz.func56.trans (congrArg some (by kernel_rfl))
 t0 := Tryz.underlying0
 a0 := Tryz.isAgg0
 z0 := Tryz.sizeOf0
 v0 := Tryz.zeroValue0
 t3 := Tryz.underlying3
 a3 := Tryz.isAgg3
 z3 := Tryz.sizeOf3
 v3 := Tryz.zeroValue3
 t9 := Tryz.underlying9
 a9 := Tryz.isAgg9
 z9 := Tryz.sizeOf9
 v9 := Tryz.zeroValue9
 t37 := Tryz.underlying39
 a37 := Tryz.isAgg39
 z37 := Tryz.sizeOf39
 v37 := Tryz.zeroValue39
 t70 := Tryz.underlying77
 a70 := Tryz.isAgg77
 z70 := Tryz.sizeOf77
 v70 := Tryz.zeroValue77
 t72 := Tryz.underlying79
 a72 := Tryz.isAgg79
 z72 := Tryz.sizeOf79
 v72 := Tryz.zeroValue79
 t127 := Tryz.underlying134
 a127 := Tryz.isAgg134
 z127 := Tryz.sizeOf134
 v127 := Tryz.zeroValue134 }
theorem Tryz.Builder_Extra_169 : Builder.Extra Tryz.prog Tryz.lays169_ren := {
 sizeBuilder := by kernel_rfl
 liesBuilder := by kernel_rfl
 t5 := Tryz.underlying5
 a5 := Tryz.isAgg5
 z5 := Tryz.sizeOf5
 v5 := Tryz.zeroValue5
 infoByte := by kernel_rfl
 cellsByte := by kernel_rfl
 sizeByte := by kernel_rfl
 neB5 := by decide }
def Tryz.lays156_ren : Go.Shelf.Ren := ⟨fun | 156 => 105 | 165 => 142 | 166 => 54 | 169 => 56 | 240 => 106 | 241 => 165 | 276 => 143 | 277 => 181 | n => n, fun | 31 => 102 | 9 => 9 | 3 => 3 | 4 => 4 | 0 => 0 | 20 => 20 | 72 => 79 | 76 => 84 | 70 => 77 | 37 => 39 | 75 => 83 | 127 => 134 | 164 => 161 | 5 => 5 | 80 => 87 | n => n, fun | n => n⟩
theorem Tryz.lays156 : Go.Proofs.Lays.n156 Tryz.prog Tryz.lays156_ren := {
 mixed := by kernel_rfl
 f156 := Tryz.func105.trans (congrArg some (by kernel_rfl))
 f165 := Tryz.func142.trans (congrArg some (by kernel_rfl))
 f166 := Tryz.func54.trans (congrArg some (by kernel_rfl))
 f169 := Tryz.func56.trans (congrArg some (by kernel_rfl))
 f240 := Tryz.func106.trans (congrArg some (by kernel_rfl))
 f241 := Tryz.func165.trans (congrArg some (by kernel_rfl))
 f276 := Tryz.func143.trans (congrArg some (by kernel_rfl))
 f277 := Tryz.func181.trans (congrArg some (by kernel_rfl))
 t0 := Tryz.underlying0
 a0 := Tryz.isAgg0
 z0 := Tryz.sizeOf0
 v0 := Tryz.zeroValue0
 t3 := Tryz.underlying3
 a3 := Tryz.isAgg3
 z3 := Tryz.sizeOf3
 v3 := Tryz.zeroValue3
 t4 := Tryz.underlying4
 a4 := Tryz.isAgg4
 z4 := Tryz.sizeOf4
 v4 := Tryz.zeroValue4
 t9 := Tryz.underlying9
 a9 := Tryz.isAgg9
 z9 := Tryz.sizeOf9
 v9 := Tryz.zeroValue9
 t20 := Tryz.underlying20
 a20 := Tryz.isAgg20
 z20 := Tryz.sizeOf20
 v20 := Tryz.zeroValue20
 t31 := Tryz.underlying102
 a31 := Tryz.isAgg102
 z31 := Tryz.sizeOf102
 v31 := Tryz.zeroValue102
 t37 := Tryz.underlying39
 a37 := Tryz.isAgg39
 z37 := Tryz.sizeOf39
 v37 := Tryz.zeroValue39
 t70 := Tryz.underlying77
 a70 := Tryz.isAgg77
 z70 := Tryz.sizeOf77
 v70 := Tryz.zeroValue77
 t72 := Tryz.underlying79
 a72 := Tryz.isAgg79
 z72 := Tryz.sizeOf79
 v72 := Tryz.zeroValue79
 t75 := Tryz.underlying83
 a75 := Tryz.isAgg83
 z75 := Tryz.sizeOf83
 v75 := Tryz.zeroValue83
 t76 := Tryz.underlying84
 a76 := Tryz.isAgg84
 z76 := Tryz.sizeOf84
 v76 := Tryz.zeroValue84
 t127 := Tryz.underlying134
 a127 := Tryz.isAgg134
 z127 := Tryz.sizeOf134
 v127 := Tryz.zeroValue134
 t164 := Tryz.underlying161
 a164 := Tryz.isAgg161
 z164 := Tryz.sizeOf161
 v164 := Tryz.zeroValue161 }
theorem Tryz.Builder_Extra_156 : Builder.Extra Tryz.prog Tryz.lays156_ren := {
 sizeBuilder := by kernel_rfl
 liesBuilder := by kernel_rfl
 t5 := Tryz.underlying5
 a5 := Tryz.isAgg5
 z5 := Tryz.sizeOf5
 v5 := Tryz.zeroValue5
 infoByte := by kernel_rfl
 cellsByte := by kernel_rfl
 sizeByte := by kernel_rfl
 neB5 := by decide }
open Go.RowKit in
theorem Tryz.strings_Join (bk o c : Nat) (xs : List ByteArray) (sep : ByteArray) (w : World) (hcells : ∀ (j : Nat) x, xs[j]? = some x → w.cell? ⟨bk, o + j, none⟩ = some (.string x)) (hbk : bk < w.heap.size) (hN : xs.length ≤ 140737488355328) (hcap : xs.length ≤ c) (hlen : (Lib.join (xs.map (·.data.toList)) sep.data.toList).length ≤ 140737488355328) :
 Calls Tryz.prog 105 #[.slice (some ⟨bk, o, none⟩) xs.length c, .string sep] w fun e w' => e = .returned (.string ⟨(Lib.join (xs.map (·.data.toList)) sep.data.toList).toArray⟩) ∧ Below w.heap.size w w' := Any.strings_Join Tryz.lays156 Tryz.Builder_Extra_156 bk o c xs sep w hcells hbk hN hcap hlen
open Go.RowKit in
theorem Tryz.Builder_String_any_f (B b : Nat) (l : List UInt8) (w : World) (h : Lib.IsBuilderF 79 5 B b (Lib.byteCells l) w) (hBw : B ≤ w.heap.size) :
 Calls Tryz.prog 56 #[.pointer (some ⟨b, 0, none⟩)] w fun e w' => e = .returned (.string ⟨l.toArray⟩) ∧ (Lib.IsBuilderF 79 5 B b (Lib.byteCells l) w' ∧ Below B w w') := Any.Builder_String_any_f Tryz.lays169 Tryz.Builder_Extra_169 B b l w h hBw
def Tryz.lays172_ren : Go.Shelf.Ren := ⟨fun | 172 => 80 | 244 => 129 | 245 => 130 | 247 => 157 | 279 => 158 | 280 => 159 | 281 => 160 | 282 => 161 | 287 => 174 | 316 => 175 | 171 => 104 | 205 => 176 | 321 => 184 | 322 => 185 | 243 => 141 | 246 => 164 | 283 => 177 | 284 => 178 | 285 => 179 | 286 => 180 | 129 => 187 | 317 => 186 | 318 => 188 | 319 => 189 | 320 => 190 | 337 => 192 | 338 => 193 | n => n, fun | 9 => 9 | 3 => 3 | 75 => 83 | 76 => 84 | 4 => 4 | 5 => 5 | 167 => 167 | 37 => 39 | 0 => 0 | 85 => 168 | 2 => 2 | 168 => 170 | 53 => 182 | 175 => 183 | 46 => 165 | 210 => 187 | 127 => 134 | 145 => 198 | 143 => 196 | 21 => 21 | 171 => 189 | 173 => 192 | 212 => 200 | 51 => 176 | 20 => 20 | 213 => 201 | 232 => 208 | 233 => 209 | 80 => 87 | n => n, fun | 15 => 1 | 16 => 2 | 17 => 3 | 18 => 6 | 19 => 7 | n => n⟩
def Tryz.laysM246_ren : Go.Shelf.Ren := ⟨fun | 246 => 164 | 283 => 177 | 284 => 178 | 285 => 179 | 286 => 180 | 129 => 187 | 317 => 186 | 318 => 188 | 319 => 189 | 320 => 190 | 337 => 192 | 338 => 193 | n => n, fun | 2 => 2 | 3 => 3 | 9 => 9 | 4 => 4 | 171 => 189 | 0 => 0 | 53 => 182 | 37 => 39 | 5 => 5 | 173 => 192 | 212 => 200 | 51 => 176 | 20 => 20 | 213 => 201 | 46 => 165 | 232 => 208 | 233 => 209 | n => n, fun | 17 => 3 | 18 => 6 | 19 => 7 | n => n⟩
def Tryz.laysM243_ren : Go.Shelf.Ren := ⟨fun | 243 => 141 | 246 => 164 | 283 => 177 | 284 => 178 | 285 => 179 | 286 => 180 | 129 => 187 | 317 => 186 | 318 => 188 | 319 => 189 | 320 => 190 | 337 => 192 | 338 => 193 | n => n, fun | 3 => 3 | 9 => 9 | 2 => 2 | 4 => 4 | 171 => 189 | 0 => 0 | 53 => 182 | 37 => 39 | 5 => 5 | 173 => 192 | 212 => 200 | 51 => 176 | 20 => 20 | 213 => 201 | 46 => 165 | 232 => 208 | 233 => 209 | n => n, fun | 17 => 3 | 18 => 6 | 19 => 7 | n => n⟩
def Tryz.laysM171_ren : Go.Shelf.Ren := ⟨fun | 171 => 104 | 243 => 141 | 246 => 164 | 283 => 177 | 284 => 178 | 285 => 179 | 286 => 180 | 129 => 187 | 317 => 186 | 318 => 188 | 319 => 189 | 320 => 190 | 337 => 192 | 338 => 193 | n => n, fun | 3 => 3 | 9 => 9 | 2 => 2 | 4 => 4 | 171 => 189 | 0 => 0 | 53 => 182 | 37 => 39 | 5 => 5 | 173 => 192 | 212 => 200 | 51 => 176 | 20 => 20 | 213 => 201 | 46 => 165 | 232 => 208 | 233 => 209 | n => n, fun | 17 => 3 | 18 => 6 | 19 => 7 | n => n⟩
theorem Tryz.laysM171 : Go.Proofs.LaysM.n171 Tryz.prog Tryz.laysM171_ren := {
 mixed := by kernel_rfl
 f129 := Tryz.func187.trans (congrArg some (by kernel_rfl))
 f171 := Tryz.func104.trans (congrArg some (by kernel_rfl))
 f243 := Tryz.func141.trans (congrArg some (by kernel_rfl))
 f246 := Tryz.func164.trans (congrArg some (by kernel_rfl))
 f283 := Tryz.func177.trans (congrArg some (by kernel_rfl))
 f284 := Tryz.func178.trans (congrArg some (by kernel_rfl))
 f285 := Tryz.func179.trans (congrArg some (by kernel_rfl))
 f286 := Tryz.func180.trans (congrArg some (by kernel_rfl))
 f317 := Tryz.func186.trans (congrArg some (by kernel_rfl))
 f318 := Tryz.func188.trans (congrArg some (by kernel_rfl))
 f319 := Tryz.func189.trans (congrArg some (by kernel_rfl))
 f320 := Tryz.func190.trans (congrArg some (by kernel_rfl))
 f337 := Tryz.func192.trans (congrArg some (by kernel_rfl))
 f338 := Tryz.func193.trans (congrArg some (by kernel_rfl))
 t0 := Tryz.underlying0
 a0 := Tryz.isAgg0
 z0 := Tryz.sizeOf0
 v0 := Tryz.zeroValue0
 t2 := Tryz.underlying2
 a2 := Tryz.isAgg2
 z2 := Tryz.sizeOf2
 v2 := Tryz.zeroValue2
 t3 := Tryz.underlying3
 a3 := Tryz.isAgg3
 z3 := Tryz.sizeOf3
 v3 := Tryz.zeroValue3
 t4 := Tryz.underlying4
 a4 := Tryz.isAgg4
 z4 := Tryz.sizeOf4
 v4 := Tryz.zeroValue4
 t5 := Tryz.underlying5
 a5 := Tryz.isAgg5
 z5 := Tryz.sizeOf5
 v5 := Tryz.zeroValue5
 t9 := Tryz.underlying9
 a9 := Tryz.isAgg9
 z9 := Tryz.sizeOf9
 v9 := Tryz.zeroValue9
 t20 := Tryz.underlying20
 a20 := Tryz.isAgg20
 z20 := Tryz.sizeOf20
 v20 := Tryz.zeroValue20
 t37 := Tryz.underlying39
 a37 := Tryz.isAgg39
 z37 := Tryz.sizeOf39
 v37 := Tryz.zeroValue39
 t46 := Tryz.underlying165
 a46 := Tryz.isAgg165
 z46 := Tryz.sizeOf165
 v46 := Tryz.zeroValue165
 t51 := Tryz.underlying176
 a51 := Tryz.isAgg176
 z51 := Tryz.sizeOf176
 v51 := Tryz.zeroValue176
 t53 := Tryz.underlying182
 a53 := Tryz.isAgg182
 z53 := Tryz.sizeOf182
 v53 := Tryz.zeroValue182
 t171 := Tryz.underlying189
 a171 := Tryz.isAgg189
 z171 := Tryz.sizeOf189
 v171 := Tryz.zeroValue189
 t173 := Tryz.underlying192
 a173 := Tryz.isAgg192
 z173 := Tryz.sizeOf192
 v173 := Tryz.zeroValue192
 t212 := Tryz.underlying200
 a212 := Tryz.isAgg200
 z212 := Tryz.sizeOf200
 v212 := Tryz.zeroValue200
 t213 := Tryz.underlying201
 a213 := Tryz.isAgg201
 z213 := Tryz.sizeOf201
 t232 := Tryz.underlying208
 a232 := Tryz.isAgg208
 z232 := Tryz.sizeOf208
 v232 := Tryz.zeroValue208
 t233 := Tryz.underlying209
 a233 := Tryz.isAgg209
 z233 := Tryz.sizeOf209
 v233 := Tryz.zeroValue209
 g17 := by kernel_rfl
 g18 := by kernel_rfl
 g19 := by kernel_rfl
 i0 := by kernel_rfl
 i2 := by kernel_rfl
 i3 := by kernel_rfl
 i4 := by kernel_rfl
 i5 := by kernel_rfl
 i9 := by kernel_rfl
 i20 := by kernel_rfl
 i37 := by kernel_rfl
 i46 := by kernel_rfl
 i51 := by kernel_rfl
 i53 := by kernel_rfl
 i171 := by kernel_rfl
 i173 := by kernel_rfl
 i212 := by kernel_rfl
 i232 := by kernel_rfl
 i233 := by kernel_rfl
 m17 := by kernel_rfl
 m18 := by kernel_rfl
 m19 := by kernel_rfl }
open Go.RowKit Go.Sort Go.Lib in
theorem Tryz.strconv_Itoa (n : Int) (h0 : -9223372036854775808 ≤ n) (h1 : n ≤ 9223372036854775807) (w : World) (htab : Lib.TabIs Tryz.prog w "internal/strconv.uint64pow10" .u64 Lib.pow10Tab) :
 Calls Tryz.prog 104 #[.int .i64 n] w fun e w' => e = .returned (.string ⟨(Lib.itoa n).toArray⟩) ∧ ∃ k os, w' = grow (w.drewN k) os := Any.strconv_Itoa Tryz.laysM171 n h0 h1 w htab
def Tryz.laysC172_ren : Go.Shelf.Ren := ⟨fun | 172 => 80 | 244 => 129 | 245 => 130 | 247 => 157 | 279 => 158 | 280 => 159 | 281 => 160 | 282 => 161 | 287 => 174 | 316 => 175 | 171 => 104 | 205 => 176 | 321 => 184 | 322 => 185 | 243 => 141 | 246 => 164 | 283 => 177 | 284 => 178 | 285 => 179 | 286 => 180 | 129 => 187 | 317 => 186 | 318 => 188 | 319 => 189 | 320 => 190 | 337 => 192 | 338 => 193 | n => n, fun | 9 => 9 | 3 => 3 | 75 => 83 | 76 => 84 | 4 => 4 | 5 => 5 | 167 => 167 | 37 => 39 | 0 => 0 | 85 => 168 | 2 => 2 | 168 => 170 | 53 => 182 | 175 => 183 | 46 => 165 | 210 => 187 | 127 => 134 | 145 => 198 | 143 => 196 | 21 => 21 | 171 => 189 | 173 => 192 | 212 => 200 | 51 => 176 | 20 => 20 | 213 => 201 | 232 => 208 | 233 => 209 | 80 => 87 | n => n, fun | 15 => 1 | 16 => 2 | 17 => 3 | 18 => 6 | 19 => 7 | n => n⟩
theorem Tryz.laysC172 : Go.Proofs.LaysC.n172 Tryz.prog Tryz.laysC172_ren := {
 mixed := by kernel_rfl
 f129 := Tryz.func187.trans (congrArg some (by kernel_rfl))
 f171 := Tryz.func104.trans (congrArg some (by kernel_rfl))
 f172 := Tryz.func80.trans (congrArg some (by kernel_rfl))
 f205 := Tryz.func176.trans (congrArg some (by kernel_rfl))
 f243 := Tryz.func141.trans (congrArg some (by kernel_rfl))
 f244 := Tryz.func129.trans (congrArg some (by kernel_rfl))
 f245 := Tryz.func130.trans (congrArg some (by kernel_rfl))
 f246 := Tryz.func164.trans (congrArg some (by kernel_rfl))
 f247 := Tryz.func157.trans (congrArg some (by kernel_rfl))
 f279 := Tryz.func158.trans (congrArg some (by kernel_rfl))
 f280 := Tryz.func159.trans (congrArg some (by kernel_rfl))
 f281 := Tryz.func160.trans (congrArg some (by kernel_rfl))
 f282 := Tryz.func161.trans (congrArg some (by kernel_rfl))
 f283 := Tryz.func177.trans (congrArg some (by kernel_rfl))
 f284 := Tryz.func178.trans (congrArg some (by kernel_rfl))
 f285 := Tryz.func179.trans (congrArg some (by kernel_rfl))
 f286 := Tryz.func180.trans (congrArg some (by kernel_rfl))
 f287 := Tryz.func174.trans (congrArg some (by kernel_rfl))
 f316 := Tryz.func175.trans (congrArg some (by kernel_rfl))
 f317 := Tryz.func186.trans (congrArg some (by kernel_rfl))
 f318 := Tryz.func188.trans (congrArg some (by kernel_rfl))
 f319 := Tryz.func189.trans (congrArg some (by kernel_rfl))
 f320 := Tryz.func190.trans (congrArg some (by kernel_rfl))
 f321 := Tryz.func184.trans (congrArg some (by kernel_rfl))
 f322 := Tryz.func185.trans (congrArg some (by kernel_rfl))
 f337 := Tryz.func192.trans (congrArg some (by kernel_rfl))
 f338 := Tryz.func193.trans (congrArg some (by kernel_rfl))
 t0 := Tryz.underlying0
 a0 := Tryz.isAgg0
 z0 := Tryz.sizeOf0
 v0 := Tryz.zeroValue0
 t2 := Tryz.underlying2
 a2 := Tryz.isAgg2
 z2 := Tryz.sizeOf2
 v2 := Tryz.zeroValue2
 t3 := Tryz.underlying3
 a3 := Tryz.isAgg3
 z3 := Tryz.sizeOf3
 v3 := Tryz.zeroValue3
 t4 := Tryz.underlying4
 a4 := Tryz.isAgg4
 z4 := Tryz.sizeOf4
 v4 := Tryz.zeroValue4
 t5 := Tryz.underlying5
 a5 := Tryz.isAgg5
 z5 := Tryz.sizeOf5
 v5 := Tryz.zeroValue5
 t9 := Tryz.underlying9
 a9 := Tryz.isAgg9
 z9 := Tryz.sizeOf9
 v9 := Tryz.zeroValue9
 t20 := Tryz.underlying20
 a20 := Tryz.isAgg20
 z20 := Tryz.sizeOf20
 v20 := Tryz.zeroValue20
 t21 := Tryz.underlying21
 a21 := Tryz.isAgg21
 z21 := Tryz.sizeOf21
 v21 := Tryz.zeroValue21
 t37 := Tryz.underlying39
 a37 := Tryz.isAgg39
 z37 := Tryz.sizeOf39
 v37 := Tryz.zeroValue39
 t46 := Tryz.underlying165
 a46 := Tryz.isAgg165
 z46 := Tryz.sizeOf165
 v46 := Tryz.zeroValue165
 t51 := Tryz.underlying176
 a51 := Tryz.isAgg176
 z51 := Tryz.sizeOf176
 v51 := Tryz.zeroValue176
 t53 := Tryz.underlying182
 a53 := Tryz.isAgg182
 z53 := Tryz.sizeOf182
 v53 := Tryz.zeroValue182
 t75 := Tryz.underlying83
 a75 := Tryz.isAgg83
 z75 := Tryz.sizeOf83
 v75 := Tryz.zeroValue83
 t76 := Tryz.underlying84
 a76 := Tryz.isAgg84
 z76 := Tryz.sizeOf84
 v76 := Tryz.zeroValue84
 t85 := Tryz.underlying168
 a85 := Tryz.isAgg168
 z85 := Tryz.sizeOf168
 v85 := Tryz.zeroValue168
 t127 := Tryz.underlying134
 a127 := Tryz.isAgg134
 z127 := Tryz.sizeOf134
 v127 := Tryz.zeroValue134
 t143 := Tryz.underlying196
 a143 := Tryz.isAgg196
 z143 := Tryz.sizeOf196
 v143 := Tryz.zeroValue196
 t145 := Tryz.underlying198
 a145 := Tryz.isAgg198
 z145 := Tryz.sizeOf198
 v145 := Tryz.zeroValue198
 t167 := Tryz.underlying167
 a167 := Tryz.isAgg167
 z167 := Tryz.sizeOf167
 v167 := Tryz.zeroValue167
 t168 := Tryz.underlying170
 a168 := Tryz.isAgg170
 z168 := Tryz.sizeOf170
 v168 := Tryz.zeroValue170
 t171 := Tryz.underlying189
 a171 := Tryz.isAgg189
 z171 := Tryz.sizeOf189
 v171 := Tryz.zeroValue189
 t173 := Tryz.underlying192
 a173 := Tryz.isAgg192
 z173 := Tryz.sizeOf192
 v173 := Tryz.zeroValue192
 t175 := Tryz.underlying183
 a175 := Tryz.isAgg183
 z175 := Tryz.sizeOf183
 v175 := Tryz.zeroValue183
 t210 := Tryz.underlying187
 a210 := Tryz.isAgg187
 z210 := Tryz.sizeOf187
 v210 := Tryz.zeroValue187
 t212 := Tryz.underlying200
 a212 := Tryz.isAgg200
 z212 := Tryz.sizeOf200
 v212 := Tryz.zeroValue200
 t213 := Tryz.underlying201
 a213 := Tryz.isAgg201
 z213 := Tryz.sizeOf201
 t232 := Tryz.underlying208
 a232 := Tryz.isAgg208
 z232 := Tryz.sizeOf208
 v232 := Tryz.zeroValue208
 t233 := Tryz.underlying209
 a233 := Tryz.isAgg209
 z233 := Tryz.sizeOf209
 v233 := Tryz.zeroValue209
 g15 := by kernel_rfl
 g16 := by kernel_rfl
 g17 := by kernel_rfl
 g18 := by kernel_rfl
 g19 := by kernel_rfl
 t80 := Tryz.underlying87
 a80 := Tryz.isAgg87
 z80 := Tryz.sizeOf87
 v80 := Tryz.zeroValue87
 i0 := by kernel_rfl
 i2 := by kernel_rfl
 i3 := by kernel_rfl
 i4 := by kernel_rfl
 i5 := by kernel_rfl
 i9 := by kernel_rfl
 i20 := by kernel_rfl
 i21 := by kernel_rfl
 i37 := by kernel_rfl
 i46 := by kernel_rfl
 i51 := by kernel_rfl
 i53 := by kernel_rfl
 i75 := by kernel_rfl
 i76 := by kernel_rfl
 i80 := by kernel_rfl
 i85 := by kernel_rfl
 i127 := by kernel_rfl
 i143 := by kernel_rfl
 i145 := by kernel_rfl
 i167 := by kernel_rfl
 i168 := by kernel_rfl
 i171 := by kernel_rfl
 i173 := by kernel_rfl
 i175 := by kernel_rfl
 i210 := by kernel_rfl
 i212 := by kernel_rfl
 i232 := by kernel_rfl
 i233 := by kernel_rfl
 m15 := by kernel_rfl
 m16 := by kernel_rfl
 m17 := by kernel_rfl
 m18 := by kernel_rfl
 m19 := by kernel_rfl
 c0 := by kernel_rfl
 c2 := by kernel_rfl
 c3 := by kernel_rfl
 c4 := by kernel_rfl
 c5 := by kernel_rfl
 c9 := by kernel_rfl
 c20 := by kernel_rfl
 c21 := by kernel_rfl
 c37 := by kernel_rfl
 c46 := by kernel_rfl
 c51 := by kernel_rfl
 c53 := by kernel_rfl
 c75 := by kernel_rfl
 c76 := by kernel_rfl
 c80 := by kernel_rfl
 c85 := by kernel_rfl
 c127 := by kernel_rfl
 c143 := by kernel_rfl
 c145 := by kernel_rfl
 c167 := by kernel_rfl
 c168 := by kernel_rfl
 c171 := by kernel_rfl
 c173 := by kernel_rfl
 c175 := by kernel_rfl
 c210 := by kernel_rfl
 c212 := by kernel_rfl
 c213 := by kernel_rfl
 c232 := by kernel_rfl
 c233 := by kernel_rfl }
open Go.RowKit in
theorem Tryz.strconv_Atoi_ok (s : ByteArray) (hmax : s.size ≤ 9223372036854775806) (v : Int) (h : Lib.atoiAll s.data.toList = .ok v) (w : World) :
 Calls Tryz.prog 80 #[.string s] w fun e w' => e = .returned (.tuple #[.int .i64 v, .nilIface]) ∧ (w' = w ∨ ∃ t, w' = Lib.bytesWorld w 5 t) := Any.strconv_Atoi_ok Tryz.laysC172 s hmax v h w
open Go.RowKit in
theorem Tryz.strconv_Atoi_syntax (s : ByteArray) (hlim : s.size ≤ 281474976710656) (h : Lib.atoiAll s.data.toList = .syntax) (ev : Value) (w : World) (hv : w.cell? ⟨1, 0, none⟩ = some ev) (hev : ev = .nilIface ∨ ∃ te pe, ev = .iface te pe) :
 Calls Tryz.prog 80 #[.string s] w fun e w' => ∃ N, e = .returned (.tuple #[.int .i64 (0), .iface 170 (.pointer (some ⟨N, 0, none⟩))]) ∧ w.heap.size ≤ N ∧ w'.heap[N]? = some (.cells #[.string ⟨#[65, 116, 111, 105]⟩, .string s, ev] 187 (0, 0)) ∧ Below w.heap.size w w' := Any.strconv_Atoi_syntax Tryz.laysC172 s hlim h ev w hv hev
open Go.RowKit in
theorem Tryz.strconv_Atoi_range (s : ByteArray) (hlim : s.size ≤ 281474976710656) (h : Lib.atoiAll s.data.toList = .range) (ev : Value) (w : World) (hv : w.cell? ⟨2, 0, none⟩ = some ev) (hev : ev = .nilIface ∨ ∃ te pe, ev = .iface te pe) :
 Calls Tryz.prog 80 #[.string s] w fun e w' => ∃ N, e = .returned (.tuple #[.int .i64 (Lib.atoiSat s.data.toList), .iface 170 (.pointer (some ⟨N, 0, none⟩))]) ∧ w.heap.size ≤ N ∧ w'.heap[N]? = some (.cells #[.string ⟨#[65, 116, 111, 105]⟩, .string s, ev] 187 (0, 0)) ∧ Below w.heap.size w w' := Any.strconv_Atoi_range Tryz.laysC172 s hlim h ev w hv hev
def Tryz.lays219_ren : Go.Shelf.Ren := ⟨fun | 219 => 127 | 217 => 150 | 225 => 151 | 224 => 152 | 267 => 153 | 266 => 169 | 314 => 170 | n => n, fun | 9 => 9 | 3 => 3 | 4 => 4 | 5 => 5 | 46 => 165 | 146 => 177 | 51 => 176 | n => n, fun | 1 => 0 | n => n⟩
def Tryz.lays145_ren : Go.Shelf.Ren := ⟨fun | 145 => 43 | 220 => 76 | 219 => 127 | 217 => 150 | 225 => 151 | 224 => 152 | 267 => 153 | 266 => 169 | 314 => 170 | n => n, fun | 9 => 9 | 4 => 4 | 59 => 66 | 3 => 3 | 5 => 5 | 46 => 165 | 146 => 177 | 51 => 176 | n => n, fun | 1 => 0 | n => n⟩
theorem Tryz.lays145 : Go.Proofs.Lays.n145 Tryz.prog Tryz.lays145_ren := {
 mixed := by kernel_rfl
 f145 := Tryz.func43.trans (congrArg some (by kernel_rfl))
 f217 := Tryz.func150.trans (congrArg some (by kernel_rfl))
 f219 := Tryz.func127.trans (congrArg some (by kernel_rfl))
 f220 := Tryz.func76.trans (congrArg some (by kernel_rfl))
 f224 := Tryz.func152.trans (congrArg some (by kernel_rfl))
 f225 := Tryz.func151.trans (congrArg some (by kernel_rfl))
 f266 := Tryz.func169.trans (congrArg some (by kernel_rfl))
 f267 := Tryz.func153.trans (congrArg some (by kernel_rfl))
 f314 := Tryz.func170.trans (congrArg some (by kernel_rfl))
 t3 := Tryz.underlying3
 a3 := Tryz.isAgg3
 z3 := Tryz.sizeOf3
 v3 := Tryz.zeroValue3
 t4 := Tryz.underlying4
 a4 := Tryz.isAgg4
 z4 := Tryz.sizeOf4
 v4 := Tryz.zeroValue4
 t5 := Tryz.underlying5
 a5 := Tryz.isAgg5
 z5 := Tryz.sizeOf5
 v5 := Tryz.zeroValue5
 t9 := Tryz.underlying9
 a9 := Tryz.isAgg9
 z9 := Tryz.sizeOf9
 v9 := Tryz.zeroValue9
 t46 := Tryz.underlying165
 a46 := Tryz.isAgg165
 z46 := Tryz.sizeOf165
 v46 := Tryz.zeroValue165
 t51 := Tryz.underlying176
 a51 := Tryz.isAgg176
 z51 := Tryz.sizeOf176
 v51 := Tryz.zeroValue176
 t59 := Tryz.underlying66
 a59 := Tryz.isAgg66
 z59 := Tryz.sizeOf66
 v59 := Tryz.zeroValue66
 t146 := Tryz.underlying177
 a146 := Tryz.isAgg177
 z146 := Tryz.sizeOf177
 v146 := Tryz.zeroValue177
 g1 := by kernel_rfl }
open Go.RowKit Go.Lib in
theorem Tryz.strings_Cut (s sep : ByteArray) (m : Int) (w : World) (hs : s.size < 4294967281) (hm : w.cell? ⟨0, 0, none⟩ = some (.int .i64 m)) :
 Calls Tryz.prog 43 #[.string s, .string sep] w fun e w' => e = .returned (.tuple #[.string ⟨(Lib.cut s.data.toList sep.data.toList).1.toArray⟩, .string ⟨(Lib.cut s.data.toList sep.data.toList).2.1.toArray⟩, .bool (Lib.cut s.data.toList sep.data.toList).2.2]) ∧ ∃ n, w' = w.drewN n := Any.strings_Cut Tryz.lays145 s sep m w hs hm
def Tryz.laysM145_ren : Go.Shelf.Ren := ⟨fun | 145 => 43 | 220 => 76 | 219 => 127 | 217 => 150 | 225 => 151 | 224 => 152 | 267 => 153 | 266 => 169 | 314 => 170 | n => n, fun | 9 => 9 | 4 => 4 | 59 => 66 | 3 => 3 | 5 => 5 | 46 => 165 | 146 => 177 | 51 => 176 | n => n, fun | 1 => 0 | n => n⟩
theorem Tryz.laysM145 : Go.Proofs.LaysM.n145 Tryz.prog Tryz.laysM145_ren := {
 mixed := by kernel_rfl
 f145 := Tryz.func43.trans (congrArg some (by kernel_rfl))
 f217 := Tryz.func150.trans (congrArg some (by kernel_rfl))
 f219 := Tryz.func127.trans (congrArg some (by kernel_rfl))
 f220 := Tryz.func76.trans (congrArg some (by kernel_rfl))
 f224 := Tryz.func152.trans (congrArg some (by kernel_rfl))
 f225 := Tryz.func151.trans (congrArg some (by kernel_rfl))
 f266 := Tryz.func169.trans (congrArg some (by kernel_rfl))
 f267 := Tryz.func153.trans (congrArg some (by kernel_rfl))
 f314 := Tryz.func170.trans (congrArg some (by kernel_rfl))
 t3 := Tryz.underlying3
 a3 := Tryz.isAgg3
 z3 := Tryz.sizeOf3
 v3 := Tryz.zeroValue3
 t4 := Tryz.underlying4
 a4 := Tryz.isAgg4
 z4 := Tryz.sizeOf4
 v4 := Tryz.zeroValue4
 t5 := Tryz.underlying5
 a5 := Tryz.isAgg5
 z5 := Tryz.sizeOf5
 v5 := Tryz.zeroValue5
 t9 := Tryz.underlying9
 a9 := Tryz.isAgg9
 z9 := Tryz.sizeOf9
 v9 := Tryz.zeroValue9
 t46 := Tryz.underlying165
 a46 := Tryz.isAgg165
 z46 := Tryz.sizeOf165
 v46 := Tryz.zeroValue165
 t51 := Tryz.underlying176
 a51 := Tryz.isAgg176
 z51 := Tryz.sizeOf176
 v51 := Tryz.zeroValue176
 t59 := Tryz.underlying66
 a59 := Tryz.isAgg66
 z59 := Tryz.sizeOf66
 v59 := Tryz.zeroValue66
 t146 := Tryz.underlying177
 a146 := Tryz.isAgg177
 z146 := Tryz.sizeOf177
 v146 := Tryz.zeroValue177
 g1 := by kernel_rfl
 i3 := by kernel_rfl
 i4 := by kernel_rfl
 i5 := by kernel_rfl
 i9 := by kernel_rfl
 i46 := by kernel_rfl
 i51 := by kernel_rfl
 i59 := by kernel_rfl
 i146 := by kernel_rfl
 m1 := by kernel_rfl
 s1_3 := fun w h => Go.Proofs.cell_of_shapedOpen_int (zero := #[.int .i64 0]) (t := 3) h (of_decide_eq_true (by kernel_rfl)) (by kernel_rfl) rfl (by kernel_rfl) (by kernel_rfl) Tryz.underlying3 }
def Tryz.lays221_ren : Go.Shelf.Ren := ⟨fun | 221 => 128 | 268 => 154 | 138 => 155 | 143 => 156 | 195 => 171 | 197 => 172 | 218 => 173 | 219 => 127 | 260 => 183 | 217 => 150 | 225 => 151 | 224 => 152 | 267 => 153 | 266 => 169 | 314 => 170 | n => n, fun | 9 => 9 | 3 => 3 | 31 => 102 | 4 => 4 | 0 => 0 | 105 => 180 | 21 => 21 | 5 => 5 | 46 => 165 | 119 => 203 | 139 => 206 | 138 => 205 | 146 => 177 | 51 => 176 | n => n, fun | 1 => 0 | 3 => 4 | 4 => 5 | n => n⟩
def Tryz.lays146_ren : Go.Shelf.Ren := ⟨fun | 146 => 77 | 221 => 128 | 268 => 154 | 138 => 155 | 143 => 156 | 195 => 171 | 197 => 172 | 218 => 173 | 219 => 127 | 260 => 183 | 217 => 150 | 225 => 151 | 224 => 152 | 267 => 153 | 266 => 169 | 314 => 170 | n => n, fun | 9 => 9 | 31 => 102 | 3 => 3 | 4 => 4 | 0 => 0 | 105 => 180 | 21 => 21 | 5 => 5 | 46 => 165 | 119 => 203 | 139 => 206 | 138 => 205 | 146 => 177 | 51 => 176 | n => n, fun | 1 => 0 | 3 => 4 | 4 => 5 | n => n⟩
theorem Tryz.lays146 : Go.Proofs.Lays.n146 Tryz.prog Tryz.lays146_ren := {
 mixed := by kernel_rfl
 f138 := Tryz.func155.trans (congrArg some (by kernel_rfl))
 f143 := Tryz.func156.trans (congrArg some (by kernel_rfl))
 f146 := Tryz.func77.trans (congrArg some (by kernel_rfl))
 f195 := Tryz.func171.trans (congrArg some (by kernel_rfl))
 f197 := Tryz.func172.trans (congrArg some (by kernel_rfl))
 f217 := Tryz.func150.trans (congrArg some (by kernel_rfl))
 f218 := Tryz.func173.trans (congrArg some (by kernel_rfl))
 f219 := Tryz.func127.trans (congrArg some (by kernel_rfl))
 f221 := Tryz.func128.trans (congrArg some (by kernel_rfl))
 f224 := Tryz.func152.trans (congrArg some (by kernel_rfl))
 f225 := Tryz.func151.trans (congrArg some (by kernel_rfl))
 f260 := Tryz.func183.trans (congrArg some (by kernel_rfl))
 f266 := Tryz.func169.trans (congrArg some (by kernel_rfl))
 f267 := Tryz.func153.trans (congrArg some (by kernel_rfl))
 f268 := Tryz.func154.trans (congrArg some (by kernel_rfl))
 f314 := Tryz.func170.trans (congrArg some (by kernel_rfl))
 t0 := Tryz.underlying0
 a0 := Tryz.isAgg0
 z0 := Tryz.sizeOf0
 v0 := Tryz.zeroValue0
 t3 := Tryz.underlying3
 a3 := Tryz.isAgg3
 z3 := Tryz.sizeOf3
 v3 := Tryz.zeroValue3
 t4 := Tryz.underlying4
 a4 := Tryz.isAgg4
 z4 := Tryz.sizeOf4
 v4 := Tryz.zeroValue4
 t5 := Tryz.underlying5
 a5 := Tryz.isAgg5
 z5 := Tryz.sizeOf5
 v5 := Tryz.zeroValue5
 t9 := Tryz.underlying9
 a9 := Tryz.isAgg9
 z9 := Tryz.sizeOf9
 v9 := Tryz.zeroValue9
 t21 := Tryz.underlying21
 a21 := Tryz.isAgg21
 z21 := Tryz.sizeOf21
 v21 := Tryz.zeroValue21
 t31 := Tryz.underlying102
 a31 := Tryz.isAgg102
 z31 := Tryz.sizeOf102
 v31 := Tryz.zeroValue102
 t46 := Tryz.underlying165
 a46 := Tryz.isAgg165
 z46 := Tryz.sizeOf165
 v46 := Tryz.zeroValue165
 t51 := Tryz.underlying176
 a51 := Tryz.isAgg176
 z51 := Tryz.sizeOf176
 v51 := Tryz.zeroValue176
 t105 := Tryz.underlying180
 a105 := Tryz.isAgg180
 z105 := Tryz.sizeOf180
 v105 := Tryz.zeroValue180
 t119 := Tryz.underlying203
 a119 := Tryz.isAgg203
 z119 := Tryz.sizeOf203
 t138 := Tryz.underlying205
 a138 := Tryz.isAgg205
 z138 := Tryz.sizeOf205
 v138 := Tryz.zeroValue205
 t139 := Tryz.underlying206
 a139 := Tryz.isAgg206
 z139 := Tryz.sizeOf206
 v139 := Tryz.zeroValue206
 t146 := Tryz.underlying177
 a146 := Tryz.isAgg177
 z146 := Tryz.sizeOf177
 v146 := Tryz.zeroValue177
 g1 := by kernel_rfl
 g3 := by kernel_rfl
 g4 := by kernel_rfl }
open Go.RowKit Go.Lib in
theorem Tryz.strings_Split (s sep : ByteArray) (m : Int) (w : World) (hs : s.size < 4294967281) (hm : w.cell? ⟨0, 0, none⟩ = some (.int .i64 m)) (h1 : 1 ≤ sep.size) :
 Calls Tryz.prog 77 #[.string s, .string sep] w fun e w' =>
  e = .returned (.slice (some ⟨w.heap.size, 0, none⟩) (Lib.countB s sep + 1) (Lib.countB s sep + 1)) ∧ w' = w.alloc (.cells ((Lib.splitB sep 0 (Lib.countB s sep) s).map Value.string).toArray 9) := Any.strings_Split Tryz.lays146 (by kernel_rfl) s sep m w hs hm h1
def Tryz.lays107_ren : Go.Shelf.Ren := ⟨fun | 107 => 133 | 108 => 163 | n => n, fun | 28 => 22 | 3 => 3 | 4 => 4 | 0 => 0 | n => n, fun | n => n⟩
theorem Tryz.lays107 : Go.Proofs.Lays.n107 Tryz.prog Tryz.lays107_ren := {
 mixed := by kernel_rfl
 f107 := Tryz.func133.trans (congrArg some (by kernel_rfl))
 f108 := Tryz.func163.trans (congrArg some (by kernel_rfl))
 t0 := Tryz.underlying0
 a0 := Tryz.isAgg0
 z0 := Tryz.sizeOf0
 v0 := Tryz.zeroValue0
 t3 := Tryz.underlying3
 a3 := Tryz.isAgg3
 z3 := Tryz.sizeOf3
 v3 := Tryz.zeroValue3
 t4 := Tryz.underlying4
 a4 := Tryz.isAgg4
 z4 := Tryz.sizeOf4
 v4 := Tryz.zeroValue4
 t28 := Tryz.underlying22
 a28 := Tryz.isAgg22
 z28 := Tryz.sizeOf22
 v28 := Tryz.zeroValue22 }
open Go.Lib in
theorem Tryz.slices_Contains_int (b off n c : Nat) (zs : List Int) (x : Int) (w : World) (hz : n ≤ zs.length) (hbig : n ≤ 9223372036854775807) (hc : ∀ j, j < zs.length → w.cell? ⟨b, off + j, none⟩ = some (.int .i64 (zs.getD j 0))) :
 Calls Tryz.prog 133 #[.slice (some ⟨b, off, none⟩) n c, .int .i64 x] w fun e w' => e = .returned (.bool ((zs.take n).contains x)) ∧ w' = w := Any.slices_Contains_int Tryz.lays107 b off n c zs x w hz hbig hc
def Tryz.lays111_ren : Go.Shelf.Ren := ⟨fun | 111 => 39 | n => n, fun | 28 => 22 | 3 => 3 | 4 => 4 | 0 => 0 | n => n, fun | n => n⟩
theorem Tryz.lays111 : Go.Proofs.Lays.n111 Tryz.prog Tryz.lays111_ren := {
 mixed := by kernel_rfl
 f111 := Tryz.func39.trans (congrArg some (by kernel_rfl))
 t0 := Tryz.underlying0
 a0 := Tryz.isAgg0
 z0 := Tryz.sizeOf0
 v0 := Tryz.zeroValue0
 t3 := Tryz.underlying3
 a3 := Tryz.isAgg3
 z3 := Tryz.sizeOf3
 v3 := Tryz.zeroValue3
 t4 := Tryz.underlying4
 a4 := Tryz.isAgg4
 z4 := Tryz.sizeOf4
 v4 := Tryz.zeroValue4
 t28 := Tryz.underlying22
 a28 := Tryz.isAgg22
 z28 := Tryz.sizeOf22
 v28 := Tryz.zeroValue22 }
open Go.RowKit Go.Lib in
theorem Tryz.slices_Equal_int (b1 o1 n c b2 o2 m d : Nat) (xs ys : List Int) (w : World) (hx : n ≤ xs.length) (hy : m ≤ ys.length) (hbig : n ≤ 9223372036854775807) (hbig2 : m ≤ 9223372036854775807) (hc1 : ∀ j, j < xs.length → w.cell? ⟨b1, o1 + j, none⟩ = some (.int .i64 (xs.getD j 0))) (hc2 : ∀ j, j < ys.length → w.cell? ⟨b2, o2 + j, none⟩ = some (.int .i64 (ys.getD j 0))) :
 Calls Tryz.prog 39 #[.slice (some ⟨b1, o1, none⟩) n c, .slice (some ⟨b2, o2, none⟩) m d] w fun e w' => e = .returned (.bool (xs.take n == ys.take m)) ∧ ∃ q, w' = w.drewN q := Any.slices_Equal_int Tryz.lays111 b1 o1 n c b2 o2 m d xs ys w hx hy hbig hbig2 hc1 hc2
open Go.RowKit Go.Lib in
theorem Tryz.slices_Equal_int_empty (a1 a2 : Option Addr) (c m d : Nat) (w : World) (hbig2 : m ≤ 9223372036854775807) :
 Calls Tryz.prog 39 #[.slice a1 0 c, .slice a2 m d] w fun e w' => e = .returned (.bool (decide (m = 0))) ∧ w' = w := Any.slices_Equal_int_empty Tryz.lays111 a1 a2 c m d w hbig2
def Tryz.laysNm215_ren : Go.Shelf.Ren := ⟨fun | 15 => 59 | n => n, fun | 22 => 22 | 3 => 3 | 4 => 4 | n => n, fun | n => n⟩
theorem Tryz.laysNm215 : Go.Proofs.Lays2.n15 Tryz.prog Tryz.laysNm215_ren := {
 mixed := by kernel_rfl
 f15 := Tryz.func59.trans (congrArg some (by kernel_rfl))
 t3 := Tryz.underlying3
 a3 := Tryz.isAgg3
 z3 := Tryz.sizeOf3
 v3 := Tryz.zeroValue3
 t4 := Tryz.underlying4
 a4 := Tryz.isAgg4
 z4 := Tryz.sizeOf4
 v4 := Tryz.zeroValue4
 t22 := Tryz.underlying22
 a22 := Tryz.isAgg22
 z22 := Tryz.sizeOf22
 v22 := Tryz.zeroValue22
 i3 := by kernel_rfl }
open Go.RowKit Go.Lib in
theorem Tryz.slices_Clone_int (b off n c : Nat) (zs : List Int) (w : World) (hz : n ≤ zs.length) (hbig : n * 8 ≤ 140737488355328) (hc : ∀ j, j < zs.length → w.cell? ⟨b, off + j, none⟩ = some (.int .i64 (zs.getD j 0))) :
 Calls Tryz.prog 59 #[.slice (some ⟨b, off, none⟩) n c] w fun e w' => ∃ v', e = .returned v' ∧ w'.ownsRow w.heap.size 3 1 v' n ((zs.take n).map (Value.int .i64)) ∧ v' ≠ .slice none 0 0 ∧ Below w.heap.size w w' := Any.slices_Clone_int Tryz.laysNm215 b off n c zs w hz hbig hc
open Go.RowKit Go.Lib in
theorem Tryz.slices_Clone_int_nil (n c : Nat) (w : World) :
 Calls Tryz.prog 59 #[.slice none n c] w fun e w' => e = .returned (.slice none 0 0) ∧ w' = w := Any.slices_Clone_int_nil Tryz.laysNm215 n c w
open Go.RowKit Go.Lib in
theorem Tryz.slices_Clone_int_zero (a : Addr) (c : Nat) (w : World) :
 Calls Tryz.prog 59 #[.slice (some a) 0 c] w fun e w' => ∃ v', e = .returned v' ∧ w'.ownsRow w.heap.size 3 1 v' 0 [] ∧ v' ≠ .slice none 0 0 ∧ Below w.heap.size w w' := Any.slices_Clone_int_zero Tryz.laysNm215 a c w
end Go.Proofs
