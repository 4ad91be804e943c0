/- Part 9 of 33 of the proof of the law: contracts of the functions that it reaches, and plain facts. Conditions: those that each contract names. -/
import Derived.Shelf.Strings.Builder1
import Derived.Shelf.Small.Bits
import Derived.Shelf.Small.Wraps
import Derived.Shelf.Strings.BuilderF
import Derived.Shelf.Strings.BuilderK
import Derived.Shelf.Strconv.Itoa0
import Derived.Shelf.Strconv.Itoa1
import Derived.Shelf.LaysM
import Derived.Shelf.Strconv.Itoa2
import Derived.Shelf.Strconv.Itoa3
import Derived.Shelf.Sort.Plain
import Derived.Shelf.Strings.BuilderCap
import Derived.Ground.Names2Prog
import Derived.Shelf.Slices.Clone
import Derived.Shelf.Slices.CompactI
import Derived.Shelf.Slices.SearchI
import Derived.Shelf.Slices.Cells
import Derived.Shelf.Slices.In.SortNone
import Derived.Test.YtaegjpancbmppaaGreatDoorProg
set_option linter.unusedVariables false
set_option linter.unusedSimpArgs false
namespace Go.Proofs
open Go.Shelf
def Tryz.lays169_ren : Go.Shelf.Ren := ⟨fun | 169 => 82 | n => n, fun | 70 => 130 | 9 => 9 | 0 => 0 | 72 => 132 | 37 => 62 | 127 => 151 | 3 => 3 | 5 => 5 | n => n, fun | n => n⟩
theorem Tryz.lays169 : Go.Proofs.Lays.n169 Tryz.prog Tryz.lays169_ren := {
 mixed := by kernel_rfl
 f169 := Tryz.func82.trans (congrArg some (by kernel_rfl))
 t0 := Tryz.underlying0
 a0 := Tryz.isAgg0
 z0 := Tryz.sizeOf0
 v0 := Tryz.zeroValue0
 t3 := Tryz.underlying3
 a3 := Tryz.isAgg3
 z3 := Tryz.sizeOf3
 v3 := Tryz.zeroValue3
 t9 := Tryz.underlying9
 a9 := Tryz.isAgg9
 z9 := Tryz.sizeOf9
 v9 := Tryz.zeroValue9
 t37 := Tryz.underlying62
 a37 := Tryz.isAgg62
 z37 := Tryz.sizeOf62
 v37 := Tryz.zeroValue62
 t70 := Tryz.underlying130
 a70 := Tryz.isAgg130
 z70 := Tryz.sizeOf130
 v70 := Tryz.zeroValue130
 t72 := Tryz.underlying132
 a72 := Tryz.isAgg132
 z72 := Tryz.sizeOf132
 v72 := Tryz.zeroValue132
 t127 := Tryz.underlying151
 a127 := Tryz.isAgg151
 z127 := Tryz.sizeOf151
 v127 := Tryz.zeroValue151 }
theorem Tryz.Builder_Extra_169 : Builder.Extra Tryz.prog Tryz.lays169_ren := {
 sizeBuilder := by kernel_rfl
 liesBuilder := by kernel_rfl
 t5 := Tryz.underlying5
 a5 := Tryz.isAgg5
 z5 := Tryz.sizeOf5
 v5 := Tryz.zeroValue5
 infoByte := by kernel_rfl
 cellsByte := by kernel_rfl
 sizeByte := by kernel_rfl
 neB5 := by decide }
open Go.RowKit in
theorem Tryz.Builder_String_any (B b : Nat) (l : List UInt8) (w : World) (h : Lib.IsBuilder 132 5 B b (Lib.byteCells l) w) (hBw : B ≤ w.heap.size) :
  Calls Tryz.prog 82 #[.pointer (some ⟨b, 0, none⟩)] w fun e w' => e = .returned (.string ⟨l.toArray⟩) ∧ Below B w w' := Any.Builder_String_any Tryz.lays169 Tryz.Builder_Extra_169 B b l w h hBw
def Tryz.lays128_ren : Go.Shelf.Ren := ⟨fun | 128 => 108 | n => n, fun | 51 => 160 | 3 => 3 | 4 => 4 | 46 => 34 | 5 => 5 | 9 => 9 | n => n, fun | n => n⟩
def Tryz.lays125_ren : Go.Shelf.Ren := ⟨fun | 125 => 84 | 128 => 108 | 129 => 109 | n => n, fun | 46 => 34 | 3 => 3 | 51 => 160 | 53 => 72 | 4 => 4 | 5 => 5 | 9 => 9 | n => n, fun | n => n⟩
def Tryz.lays215_ren : Go.Shelf.Ren := ⟨fun | 215 => 110 | n => n, fun | 3 => 3 | 4 => 4 | n => n, fun | n => n⟩
def Tryz.lays122_ren : Go.Shelf.Ren := ⟨fun | 122 => 86 | 215 => 110 | n => n, fun | 3 => 3 | 4 => 4 | n => n, fun | n => n⟩
theorem Tryz.lays122 : Go.Proofs.Lays.n122 Tryz.prog Tryz.lays122_ren := {
 mixed := by kernel_rfl
 f122 := Tryz.func86.trans (congrArg some (by kernel_rfl))
 f215 := Tryz.func110.trans (congrArg some (by kernel_rfl))
 t3 := Tryz.underlying3
 a3 := Tryz.isAgg3
 z3 := Tryz.sizeOf3
 v3 := Tryz.zeroValue3
 t4 := Tryz.underlying4
 a4 := Tryz.isAgg4
 z4 := Tryz.sizeOf4
 v4 := Tryz.zeroValue4 }
open Go.RowKit in
theorem Tryz.cmp_Compare_int (x y : Int) (w : World) :
  Calls Tryz.prog 86 #[.int .i64 x, .int .i64 y] w fun e w' => e = .returned (.int .i64 (Lib.compareInt x y)) ∧ w' = w := Any.cmp_Compare_int Tryz.lays122 x y w
def Tryz.lays129_ren : Go.Shelf.Ren := ⟨fun | 129 => 109 | n => n, fun | 53 => 72 | 3 => 3 | 4 => 4 | 46 => 34 | 5 => 5 | 9 => 9 | n => n, fun | n => n⟩
def Tryz.lays317_ren : Go.Shelf.Ren := ⟨fun | 317 => 143 | n => n, fun | 3 => 3 | 46 => 34 | n => n, fun | n => n⟩
def Tryz.lays318_ren : Go.Shelf.Ren := ⟨fun | 318 => 144 | n => n, fun | 3 => 3 | 4 => 4 | n => n, fun | n => n⟩
def Tryz.lays283_ren : Go.Shelf.Ren := ⟨fun | 283 => 138 | n => n, fun | 3 => 3 | 9 => 9 | 4 => 4 | n => n, fun | n => n⟩
def Tryz.laysM284_ren : Go.Shelf.Ren := ⟨fun | 284 => 139 | 129 => 109 | 317 => 143 | 318 => 144 | n => n, fun | 53 => 72 | 3 => 3 | 212 => 190 | 0 => 0 | 4 => 4 | 46 => 34 | 5 => 5 | 9 => 9 | n => n, fun | 17 => 0 | n => n⟩
def Tryz.lays285_ren : Go.Shelf.Ren := ⟨fun | 285 => 140 | n => n, fun | 37 => 62 | 53 => 72 | 3 => 3 | 4 => 4 | 51 => 160 | 9 => 9 | 5 => 5 | 0 => 0 | n => n, fun | n => n⟩
def Tryz.laysM246_ren : Go.Shelf.Ren := ⟨fun | 246 => 133 | 283 => 138 | 284 => 139 | 285 => 140 | 286 => 141 | 129 => 109 | 317 => 143 | 318 => 144 | 319 => 145 | 320 => 146 | 337 => 147 | 338 => 148 | n => n, fun | 2 => 2 | 3 => 3 | 9 => 9 | 4 => 4 | 171 => 184 | 0 => 0 | 53 => 72 | 37 => 62 | 5 => 5 | 173 => 186 | 212 => 190 | 51 => 160 | 20 => 20 | 213 => 191 | 46 => 34 | 232 => 192 | 233 => 193 | n => n, fun | 17 => 0 | 18 => 1 | 19 => 2 | n => n⟩
def Tryz.lays246_ren : Go.Shelf.Ren := ⟨fun | 246 => 133 | 283 => 138 | 284 => 139 | 285 => 140 | 286 => 141 | 129 => 109 | 317 => 143 | 318 => 144 | 319 => 145 | 320 => 146 | 337 => 147 | 338 => 148 | n => n, fun | 2 => 2 | 3 => 3 | 9 => 9 | 4 => 4 | 171 => 184 | 0 => 0 | 53 => 72 | 37 => 62 | 5 => 5 | 173 => 186 | 212 => 190 | 51 => 160 | 20 => 20 | 213 => 191 | 46 => 34 | 232 => 192 | 233 => 193 | n => n, fun | 17 => 0 | 18 => 1 | 19 => 2 | n => n⟩
def Tryz.laysM243_ren : Go.Shelf.Ren := ⟨fun | 243 => 117 | 246 => 133 | 283 => 138 | 284 => 139 | 285 => 140 | 286 => 141 | 129 => 109 | 317 => 143 | 318 => 144 | 319 => 145 | 320 => 146 | 337 => 147 | 338 => 148 | n => n, fun | 3 => 3 | 9 => 9 | 2 => 2 | 4 => 4 | 171 => 184 | 0 => 0 | 53 => 72 | 37 => 62 | 5 => 5 | 173 => 186 | 212 => 190 | 51 => 160 | 20 => 20 | 213 => 191 | 46 => 34 | 232 => 192 | 233 => 193 | n => n, fun | 17 => 0 | 18 => 1 | 19 => 2 | n => n⟩
def Tryz.lays243_ren : Go.Shelf.Ren := ⟨fun | 243 => 117 | 246 => 133 | 283 => 138 | 284 => 139 | 285 => 140 | 286 => 141 | 129 => 109 | 317 => 143 | 318 => 144 | 319 => 145 | 320 => 146 | 337 => 147 | 338 => 148 | n => n, fun | 3 => 3 | 9 => 9 | 2 => 2 | 4 => 4 | 171 => 184 | 0 => 0 | 53 => 72 | 37 => 62 | 5 => 5 | 173 => 186 | 212 => 190 | 51 => 160 | 20 => 20 | 213 => 191 | 46 => 34 | 232 => 192 | 233 => 193 | n => n, fun | 17 => 0 | 18 => 1 | 19 => 2 | n => n⟩
def Tryz.laysM171_ren : Go.Shelf.Ren := ⟨fun | 171 => 98 | 243 => 117 | 246 => 133 | 283 => 138 | 284 => 139 | 285 => 140 | 286 => 141 | 129 => 109 | 317 => 143 | 318 => 144 | 319 => 145 | 320 => 146 | 337 => 147 | 338 => 148 | n => n, fun | 3 => 3 | 9 => 9 | 2 => 2 | 4 => 4 | 171 => 184 | 0 => 0 | 53 => 72 | 37 => 62 | 5 => 5 | 173 => 186 | 212 => 190 | 51 => 160 | 20 => 20 | 213 => 191 | 46 => 34 | 232 => 192 | 233 => 193 | n => n, fun | 17 => 0 | 18 => 1 | 19 => 2 | n => n⟩
def Tryz.lays171_ren : Go.Shelf.Ren := ⟨fun | 171 => 98 | 243 => 117 | 246 => 133 | 283 => 138 | 284 => 139 | 285 => 140 | 286 => 141 | 129 => 109 | 317 => 143 | 318 => 144 | 319 => 145 | 320 => 146 | 337 => 147 | 338 => 148 | n => n, fun | 3 => 3 | 9 => 9 | 2 => 2 | 4 => 4 | 171 => 184 | 0 => 0 | 53 => 72 | 37 => 62 | 5 => 5 | 173 => 186 | 212 => 190 | 51 => 160 | 20 => 20 | 213 => 191 | 46 => 34 | 232 => 192 | 233 => 193 | n => n, fun | 17 => 0 | 18 => 1 | 19 => 2 | n => n⟩
theorem Tryz.lays171 : Go.Proofs.Lays.n171 Tryz.prog Tryz.lays171_ren := {
 mixed := by kernel_rfl
 f129 := Tryz.func109.trans (congrArg some (by kernel_rfl))
 f171 := Tryz.func98.trans (congrArg some (by kernel_rfl))
 f243 := Tryz.func117.trans (congrArg some (by kernel_rfl))
 f246 := Tryz.func133.trans (congrArg some (by kernel_rfl))
 f283 := Tryz.func138.trans (congrArg some (by kernel_rfl))
 f284 := Tryz.func139.trans (congrArg some (by kernel_rfl))
 f285 := Tryz.func140.trans (congrArg some (by kernel_rfl))
 f286 := Tryz.func141.trans (congrArg some (by kernel_rfl))
 f317 := Tryz.func143.trans (congrArg some (by kernel_rfl))
 f318 := Tryz.func144.trans (congrArg some (by kernel_rfl))
 f319 := Tryz.func145.trans (congrArg some (by kernel_rfl))
 f320 := Tryz.func146.trans (congrArg some (by kernel_rfl))
 f337 := Tryz.func147.trans (congrArg some (by kernel_rfl))
 f338 := Tryz.func148.trans (congrArg some (by kernel_rfl))
 t0 := Tryz.underlying0
 a0 := Tryz.isAgg0
 z0 := Tryz.sizeOf0
 v0 := Tryz.zeroValue0
 t2 := Tryz.underlying2
 a2 := Tryz.isAgg2
 z2 := Tryz.sizeOf2
 v2 := Tryz.zeroValue2
 t3 := Tryz.underlying3
 a3 := Tryz.isAgg3
 z3 := Tryz.sizeOf3
 v3 := Tryz.zeroValue3
 t4 := Tryz.underlying4
 a4 := Tryz.isAgg4
 z4 := Tryz.sizeOf4
 v4 := Tryz.zeroValue4
 t5 := Tryz.underlying5
 a5 := Tryz.isAgg5
 z5 := Tryz.sizeOf5
 v5 := Tryz.zeroValue5
 t9 := Tryz.underlying9
 a9 := Tryz.isAgg9
 z9 := Tryz.sizeOf9
 v9 := Tryz.zeroValue9
 t20 := Tryz.underlying20
 a20 := Tryz.isAgg20
 z20 := Tryz.sizeOf20
 v20 := Tryz.zeroValue20
 t37 := Tryz.underlying62
 a37 := Tryz.isAgg62
 z37 := Tryz.sizeOf62
 v37 := Tryz.zeroValue62
 t46 := Tryz.underlying34
 a46 := Tryz.isAgg34
 z46 := Tryz.sizeOf34
 v46 := Tryz.zeroValue34
 t51 := Tryz.underlying160
 a51 := Tryz.isAgg160
 z51 := Tryz.sizeOf160
 v51 := Tryz.zeroValue160
 t53 := Tryz.underlying72
 a53 := Tryz.isAgg72
 z53 := Tryz.sizeOf72
 v53 := Tryz.zeroValue72
 t171 := Tryz.underlying184
 a171 := Tryz.isAgg184
 z171 := Tryz.sizeOf184
 v171 := Tryz.zeroValue184
 t173 := Tryz.underlying186
 a173 := Tryz.isAgg186
 z173 := Tryz.sizeOf186
 v173 := Tryz.zeroValue186
 t212 := Tryz.underlying190
 a212 := Tryz.isAgg190
 z212 := Tryz.sizeOf190
 v212 := Tryz.zeroValue190
 t213 := Tryz.underlying191
 a213 := Tryz.isAgg191
 z213 := Tryz.sizeOf191
 t232 := Tryz.underlying192
 a232 := Tryz.isAgg192
 z232 := Tryz.sizeOf192
 v232 := Tryz.zeroValue192
 t233 := Tryz.underlying193
 a233 := Tryz.isAgg193
 z233 := Tryz.sizeOf193
 v233 := Tryz.zeroValue193
 g17 := by kernel_rfl
 g18 := by kernel_rfl
 g19 := by kernel_rfl }
open Go.RowKit Go.Sort Go.Lib in
theorem Tryz.strconv_Itoa_small (i : Nat) (hi : i < 100) (w : World) :
  Calls Tryz.prog 98 #[.int .i64 i] w fun e w' => e = .returned (.string ⟨(Lib.decDigits i).toArray⟩) ∧ w' = w := Any.strconv_Itoa_small Tryz.lays171 i hi w
def Tryz.lays189_ren : Go.Shelf.Ren := ⟨fun | 189 => 88 | 125 => 84 | 257 => 112 | 128 => 108 | 129 => 109 | 294 => 123 | 295 => 124 | 296 => 125 | 297 => 126 | 298 => 127 | 299 => 128 | 216 => 129 | 300 => 130 | 301 => 131 | 328 => 135 | 329 => 119 | 330 => 120 | 331 => 136 | 332 => 137 | 215 => 110 | 343 => 142 | n => n, fun | 28 => 24 | 3 => 3 | 46 => 34 | 0 => 0 | 51 => 160 | 53 => 72 | 4 => 4 | 183 => 154 | 182 => 153 | 131 => 88 | 5 => 5 | 9 => 9 | 218 => 165 | 222 => 169 | 228 => 179 | 229 => 180 | n => n, fun | n => n⟩
theorem Tryz.lays189 : Go.Proofs.Lays.n189 Tryz.prog Tryz.lays189_ren := {
 mixed := by kernel_rfl
 f125 := Tryz.func84.trans (congrArg some (by kernel_rfl))
 f128 := Tryz.func108.trans (congrArg some (by kernel_rfl))
 f129 := Tryz.func109.trans (congrArg some (by kernel_rfl))
 f189 := Tryz.func88.trans (congrArg some (by kernel_rfl))
 f215 := Tryz.func110.trans (congrArg some (by kernel_rfl))
 f216 := Tryz.func129.trans (congrArg some (by kernel_rfl))
 f257 := Tryz.func112.trans (congrArg some (by kernel_rfl))
 f294 := Tryz.func123.trans (congrArg some (by kernel_rfl))
 f295 := Tryz.func124.trans (congrArg some (by kernel_rfl))
 f296 := Tryz.func125.trans (congrArg some (by kernel_rfl))
 f297 := Tryz.func126.trans (congrArg some (by kernel_rfl))
 f298 := Tryz.func127.trans (congrArg some (by kernel_rfl))
 f299 := Tryz.func128.trans (congrArg some (by kernel_rfl))
 f300 := Tryz.func130.trans (congrArg some (by kernel_rfl))
 f301 := Tryz.func131.trans (congrArg some (by kernel_rfl))
 f328 := Tryz.func135.trans (congrArg some (by kernel_rfl))
 f329 := Tryz.func119.trans (congrArg some (by kernel_rfl))
 f330 := Tryz.func120.trans (congrArg some (by kernel_rfl))
 f331 := Tryz.func136.trans (congrArg some (by kernel_rfl))
 f332 := Tryz.func137.trans (congrArg some (by kernel_rfl))
 f343 := Tryz.func142.trans (congrArg some (by kernel_rfl))
 t0 := Tryz.underlying0
 a0 := Tryz.isAgg0
 z0 := Tryz.sizeOf0
 v0 := Tryz.zeroValue0
 t3 := Tryz.underlying3
 a3 := Tryz.isAgg3
 z3 := Tryz.sizeOf3
 v3 := Tryz.zeroValue3
 t4 := Tryz.underlying4
 a4 := Tryz.isAgg4
 z4 := Tryz.sizeOf4
 v4 := Tryz.zeroValue4
 t5 := Tryz.underlying5
 a5 := Tryz.isAgg5
 z5 := Tryz.sizeOf5
 v5 := Tryz.zeroValue5
 t9 := Tryz.underlying9
 a9 := Tryz.isAgg9
 z9 := Tryz.sizeOf9
 v9 := Tryz.zeroValue9
 t28 := Tryz.underlying24
 a28 := Tryz.isAgg24
 z28 := Tryz.sizeOf24
 v28 := Tryz.zeroValue24
 t46 := Tryz.underlying34
 a46 := Tryz.isAgg34
 z46 := Tryz.sizeOf34
 v46 := Tryz.zeroValue34
 t51 := Tryz.underlying160
 a51 := Tryz.isAgg160
 z51 := Tryz.sizeOf160
 v51 := Tryz.zeroValue160
 t53 := Tryz.underlying72
 a53 := Tryz.isAgg72
 z53 := Tryz.sizeOf72
 v53 := Tryz.zeroValue72
 t131 := Tryz.underlying88
 a131 := Tryz.isAgg88
 z131 := Tryz.sizeOf88
 v131 := Tryz.zeroValue88
 t182 := Tryz.underlying153
 a182 := Tryz.isAgg153
 z182 := Tryz.sizeOf153
 v182 := Tryz.zeroValue153
 t183 := Tryz.underlying154
 a183 := Tryz.isAgg154
 z183 := Tryz.sizeOf154
 v183 := Tryz.zeroValue154
 t218 := Tryz.underlying165
 a218 := Tryz.isAgg165
 z218 := Tryz.sizeOf165
 v218 := Tryz.zeroValue165
 t222 := Tryz.underlying169
 a222 := Tryz.isAgg169
 z222 := Tryz.sizeOf169
 v222 := Tryz.zeroValue169
 t228 := Tryz.underlying179
 a228 := Tryz.isAgg179
 z228 := Tryz.sizeOf179
 v228 := Tryz.zeroValue179
 t229 := Tryz.underlying180
 a229 := Tryz.isAgg180
 z229 := Tryz.sizeOf180
 v229 := Tryz.zeroValue180 }
open Go.Sort Go.RowKit in
theorem Tryz.slices_Sort_int (blk off cap : Nat) (zs : List Int) (w : World) (hH : Holds (Value.int .i64) w blk off zs.toArray) (hblk : blk < w.heap.size) (hsz : zs.length < 4611686018427387904) :
  Calls Tryz.prog 88 #[.slice (some ⟨blk, off, none⟩) zs.length cap] w fun e w' =>
   e = .returned (.tuple #[]) ∧ ∃ n os, w' = grow (putRow (Value.int .i64) (Sort.ahead w n) blk off (zs.mergeSort fun x y => decide (x ≤ y)).toArray) os := Any.slices_Sort_int Tryz.lays189 blk off cap zs w hH hblk hsz
def Tryz.laysNm215_ren : Go.Shelf.Ren := ⟨fun | 15 => 51 | n => n, fun | 22 => 24 | 3 => 3 | 4 => 4 | n => n, fun | n => n⟩
theorem Tryz.laysNm215 : Go.Proofs.Lays2.n15 Tryz.prog Tryz.laysNm215_ren := {
 mixed := by kernel_rfl
 f15 := Tryz.func51.trans (congrArg some (by kernel_rfl))
 t3 := Tryz.underlying3
 a3 := Tryz.isAgg3
 z3 := Tryz.sizeOf3
 v3 := Tryz.zeroValue3
 t4 := Tryz.underlying4
 a4 := Tryz.isAgg4
 z4 := Tryz.sizeOf4
 v4 := Tryz.zeroValue4
 t22 := Tryz.underlying24
 a22 := Tryz.isAgg24
 z22 := Tryz.sizeOf24
 v22 := Tryz.zeroValue24
 i3 := by kernel_rfl }
open Go.RowKit Go.Lib in
theorem Tryz.slices_Clone_int (b off n c : Nat) (zs : List Int) (w : World) (hz : n ≤ zs.length) (hbig : n * 8 ≤ 140737488355328) (hc : ∀ j, j < zs.length → w.cell? ⟨b, off + j, none⟩ = some (.int .i64 (zs.getD j 0))) :
  Calls Tryz.prog 51 #[.slice (some ⟨b, off, none⟩) n c] w fun e w' => ∃ v', e = .returned v' ∧ w'.ownsRow w.heap.size 3 1 v' n ((zs.take n).map (Value.int .i64)) ∧ v' ≠ .slice none 0 0 ∧ Below w.heap.size w w' := Any.slices_Clone_int Tryz.laysNm215 b off n c zs w hz hbig hc
open Go.RowKit Go.Lib in
theorem Tryz.slices_Clone_int_zero (a : Addr) (c : Nat) (w : World) :
  Calls Tryz.prog 51 #[.slice (some a) 0 c] w fun e w' => ∃ v', e = .returned v' ∧ w'.ownsRow w.heap.size 3 1 v' 0 [] ∧ v' ≠ .slice none 0 0 ∧ Below w.heap.size w w' := Any.slices_Clone_int_zero Tryz.laysNm215 a c w
def Tryz.laysNm220_ren : Go.Shelf.Ren := ⟨fun | 20 => 91 | n => n, fun | 22 => 24 | 3 => 3 | 4 => 4 | 0 => 0 | n => n, fun | n => n⟩
theorem Tryz.laysNm220 : Go.Proofs.Lays2.n20 Tryz.prog Tryz.laysNm220_ren := {
 mixed := by kernel_rfl
 f20 := Tryz.func91.trans (congrArg some (by kernel_rfl))
 t0 := Tryz.underlying0
 a0 := Tryz.isAgg0
 z0 := Tryz.sizeOf0
 v0 := Tryz.zeroValue0
 t3 := Tryz.underlying3
 a3 := Tryz.isAgg3
 z3 := Tryz.sizeOf3
 v3 := Tryz.zeroValue3
 t4 := Tryz.underlying4
 a4 := Tryz.isAgg4
 z4 := Tryz.sizeOf4
 v4 := Tryz.zeroValue4
 t22 := Tryz.underlying24
 a22 := Tryz.isAgg24
 z22 := Tryz.sizeOf24
 v22 := Tryz.zeroValue24
 i3 := by kernel_rfl }
open Go.RowKit Go.Lib Go.Sort in
theorem Tryz.slices_Compact_int (blk off cap : Nat) (zs : List Int) (w : World) (hH : Holds (Value.int .i64) w blk off zs.toArray) (hsz : zs.length ≤ 9223372036854775807) (hcap : zs.length ≤ cap) :
  Calls Tryz.prog 91 #[.slice (some ⟨blk, off, none⟩) zs.length cap] w fun e w' => e = .returned (.slice (some ⟨blk, off, none⟩) (Lib.compact zs).length cap) ∧ ∃ q, w' = putRow (Value.int .i64) (Sort.ahead w q) blk off (Lib.compact zs ++ List.replicate (zs.length - (Lib.compact zs).length) 0).toArray := Any.slices_Compact_int Tryz.laysNm220 blk off cap zs w hH hsz hcap
open Go.RowKit Go.Lib Go.Sort in
theorem Tryz.slices_Compact_int_empty (a : Option Addr) (cap : Nat) (w : World) :
  Calls Tryz.prog 91 #[.slice a 0 cap] w fun e w' => e = .returned (.slice a 0 cap) ∧ w' = w := Any.slices_Compact_int_empty Tryz.laysNm220 a cap w
def Tryz.laysNm237_ren : Go.Shelf.Ren := ⟨fun | 37 => 110 | n => n, fun | 3 => 3 | 4 => 4 | n => n, fun | n => n⟩
def Tryz.laysNm231_ren : Go.Shelf.Ren := ⟨fun | 31 => 129 | 37 => 110 | n => n, fun | 3 => 3 | 4 => 4 | n => n, fun | n => n⟩
open Go.RowKit Go.Sort in
theorem Tryz.slices_Sort_int_none (p : Option Addr) (cap : Nat) (w : World) :
  Calls Tryz.prog 88 #[.slice p 0 cap] w fun e w' => e = .returned (.tuple #[]) ∧ w' = w := Any.slices_Sort_int_none Tryz.lays189 p cap w
end Go.Proofs
