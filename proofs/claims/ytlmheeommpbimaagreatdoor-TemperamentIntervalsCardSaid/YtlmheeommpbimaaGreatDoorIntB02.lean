/- Part 2 of 46 of the proof of the law: contracts of the functions that it reaches, and plain facts. Conditions: those that each contract names. -/
import Derived.Shelf.Strings.Builder1
import Derived.Shelf.Strings.Builder2
import Derived.Shelf.Small.Strs
import Derived.Shelf.Small.Wraps
import Derived.Shelf.Strings.BuilderF
import Derived.Shelf.Strings.BuilderK
import Derived.Shelf.Strings.Builder2Cap
import Derived.Shelf.Strconv.Atoi
import Derived.Shelf.Strconv.Itoa0
import Derived.Shelf.Strconv.Itoa1
import Derived.Shelf.LaysM
import Derived.Shelf.Strconv.Itoa2
import Derived.Shelf.Strconv.Itoa3
import Derived.Shelf.Strings.Prefix
import Derived.Shelf.Bits.Mul64
import Derived.Shelf.Strings.Repeat
import Derived.Shelf.Strings.BuilderCap
import Derived.Test.YtlmheeommpbimaaGreatDoorProg
namespace Go.Proofs
open Go.Shelf
def Tryz.lays170_ren : Go.Shelf.Ren := ⟨fun | 170 => 156 | n => n, fun | 70 => 190 | 3 => 3 | 0 => 0 | 72 => 192 | 37 => 189 | 5 => 5 | n => n, fun | n => n⟩
def Tryz.lays169_ren : Go.Shelf.Ren := ⟨fun | 169 => 144 | n => n, fun | 70 => 190 | 9 => 9 | 0 => 0 | 72 => 192 | 37 => 189 | 127 => 206 | 3 => 3 | 5 => 5 | n => n, fun | n => n⟩
theorem Tryz.lays169 : Go.Proofs.Lays.n169 Tryz.prog Tryz.lays169_ren := {
 mixed := by kernel_rfl
 f169 := Tryz.func144.trans (congrArg some (by kernel_rfl))
 t0 := Tryz.underlying0
 a0 := Tryz.isAgg0
 z0 := Tryz.sizeOf0
 v0 := Tryz.zeroValue0
 t3 := Tryz.underlying3
 a3 := Tryz.isAgg3
 z3 := Tryz.sizeOf3
 v3 := Tryz.zeroValue3
 t9 := Tryz.underlying9
 a9 := Tryz.isAgg9
 z9 := Tryz.sizeOf9
 v9 := Tryz.zeroValue9
 t37 := Tryz.underlying189
 a37 := Tryz.isAgg189
 z37 := Tryz.sizeOf189
 v37 := Tryz.zeroValue189
 t70 := Tryz.underlying190
 a70 := Tryz.isAgg190
 z70 := Tryz.sizeOf190
 v70 := Tryz.zeroValue190
 t72 := Tryz.underlying192
 a72 := Tryz.isAgg192
 z72 := Tryz.sizeOf192
 v72 := Tryz.zeroValue192
 t127 := Tryz.underlying206
 a127 := Tryz.isAgg206
 z127 := Tryz.sizeOf206
 v127 := Tryz.zeroValue206 }
theorem Tryz.Builder_Extra_169 : Builder.Extra Tryz.prog Tryz.lays169_ren := {
 sizeBuilder := by kernel_rfl
 liesBuilder := by kernel_rfl
 t5 := Tryz.underlying5
 a5 := Tryz.isAgg5
 z5 := Tryz.sizeOf5
 v5 := Tryz.zeroValue5
 infoByte := by kernel_rfl
 cellsByte := by kernel_rfl
 sizeByte := by kernel_rfl
 neB5 := by decide }
def Tryz.lays241_ren : Go.Shelf.Ren := ⟨fun | 241 => 170 | 277 => 179 | n => n, fun | 70 => 190 | 3 => 3 | 0 => 0 | 72 => 192 | 37 => 189 | 5 => 5 | n => n, fun | n => n⟩
def Tryz.lays165_ren : Go.Shelf.Ren := ⟨fun | 165 => 155 | 240 => 153 | 241 => 170 | 276 => 167 | 277 => 179 | n => n, fun | 70 => 190 | 3 => 3 | 0 => 0 | 4 => 4 | 9 => 9 | 20 => 20 | 72 => 192 | 37 => 189 | 164 => 218 | 5 => 5 | n => n, fun | n => n⟩
def Tryz.lays213_ren : Go.Shelf.Ren := ⟨fun | 213 => 146 | 265 => 157 | n => n, fun | 9 => 9 | 3 => 3 | n => n, fun | n => n⟩
def Tryz.lays106_ren : Go.Shelf.Ren := ⟨fun | 106 => 126 | 213 => 146 | 265 => 157 | n => n, fun | 9 => 9 | 3 => 3 | n => n, fun | n => n⟩
def Tryz.lays210_ren : Go.Shelf.Ren := ⟨fun | 210 => 145 | 206 => 139 | n => n, fun | 9 => 9 | 4 => 4 | 3 => 3 | n => n, fun | n => n⟩
def Tryz.lays103_ren : Go.Shelf.Ren := ⟨fun | 103 => 125 | 210 => 145 | 206 => 139 | n => n, fun | 9 => 9 | 4 => 4 | 24 => 173 | 3 => 3 | n => n, fun | n => n⟩
theorem Tryz.lays103 : Go.Proofs.Lays.n103 Tryz.prog Tryz.lays103_ren := {
 mixed := by kernel_rfl
 f103 := Tryz.func125.trans (congrArg some (by kernel_rfl))
 f206 := Tryz.func139.trans (congrArg some (by kernel_rfl))
 f210 := Tryz.func145.trans (congrArg some (by kernel_rfl))
 t3 := Tryz.underlying3
 a3 := Tryz.isAgg3
 z3 := Tryz.sizeOf3
 v3 := Tryz.zeroValue3
 t4 := Tryz.underlying4
 a4 := Tryz.isAgg4
 z4 := Tryz.sizeOf4
 v4 := Tryz.zeroValue4
 t9 := Tryz.underlying9
 a9 := Tryz.isAgg9
 z9 := Tryz.sizeOf9
 v9 := Tryz.zeroValue9
 t24 := Tryz.underlying173
 a24 := Tryz.isAgg173
 z24 := Tryz.sizeOf173
 v24 := Tryz.zeroValue173 }
open Go.RowKit in
theorem Tryz.strings_CutPrefix (s p : ByteArray) (w : World) :
  Calls Tryz.prog 125 #[.string s, .string p] w fun e w' => e = .returned (.tuple #[.string ⟨(Lib.trimPrefix s.data.toList p.data.toList).toArray⟩, .bool (Lib.hasPrefix s.data.toList p.data.toList)]) ∧ w' = w := Any.strings_CutPrefix Tryz.lays103 s p w
open Go.RowKit in
theorem Tryz.Builder_String_k (B b : Nat) (l : List UInt8) (w : World) (h : Lib.IsBuilderF 192 5 B b (Lib.byteCells l) w) (h0 : l ≠ []) :
  Calls Tryz.prog 144 #[.pointer (some ⟨b, 0, none⟩)] w fun e w' => e = .returned (.string ⟨l.toArray⟩) ∧ (Lib.IsBuilderF 192 5 B b (Lib.byteCells l) w' ∧ Below B w w' ∧ Lib.OthersKept 5 (some b) w w') := Any.Builder_String_k Tryz.lays169 Tryz.Builder_Extra_169 B b l w h h0
def Tryz.lays244_ren : Go.Shelf.Ren := ⟨fun | 244 => 147 | 247 => 158 | 287 => 171 | 321 => 180 | 322 => 181 | n => n, fun | 9 => 9 | 3 => 3 | 75 => 177 | 4 => 4 | 5 => 5 | 167 => 207 | 37 => 189 | 0 => 0 | 85 => 208 | 2 => 2 | 53 => 125 | 175 => 225 | 46 => 172 | 21 => 21 | 80 => 171 | n => n, fun | n => n⟩
def Tryz.lays172_ren : Go.Shelf.Ren := ⟨fun | 172 => 127 | 244 => 147 | 245 => 148 | 247 => 158 | 279 => 159 | 280 => 160 | 281 => 161 | 282 => 162 | 287 => 171 | 316 => 172 | 171 => 122 | 205 => 173 | 321 => 180 | 322 => 181 | 243 => 138 | 246 => 150 | 283 => 163 | 284 => 164 | 285 => 165 | 286 => 166 | 129 => 175 | 317 => 174 | 318 => 176 | 319 => 177 | 320 => 178 | 337 => 182 | 338 => 183 | n => n, fun | 9 => 9 | 3 => 3 | 75 => 177 | 76 => 178 | 4 => 4 | 5 => 5 | 167 => 207 | 37 => 189 | 0 => 0 | 85 => 208 | 2 => 2 | 168 => 210 | 53 => 125 | 175 => 225 | 46 => 172 | 210 => 229 | 127 => 206 | 145 => 241 | 143 => 239 | 21 => 21 | 171 => 213 | 173 => 216 | 212 => 232 | 51 => 220 | 20 => 20 | 213 => 233 | 232 => 243 | 233 => 244 | 80 => 171 | n => n, fun | 15 => 1 | 16 => 2 | 17 => 3 | 18 => 4 | 19 => 5 | n => n⟩
theorem Tryz.lays172 : Go.Proofs.Lays.n172 Tryz.prog Tryz.lays172_ren := {
 mixed := by kernel_rfl
 f129 := Tryz.func175.trans (congrArg some (by kernel_rfl))
 f171 := Tryz.func122.trans (congrArg some (by kernel_rfl))
 f172 := Tryz.func127.trans (congrArg some (by kernel_rfl))
 f205 := Tryz.func173.trans (congrArg some (by kernel_rfl))
 f243 := Tryz.func138.trans (congrArg some (by kernel_rfl))
 f244 := Tryz.func147.trans (congrArg some (by kernel_rfl))
 f245 := Tryz.func148.trans (congrArg some (by kernel_rfl))
 f246 := Tryz.func150.trans (congrArg some (by kernel_rfl))
 f247 := Tryz.func158.trans (congrArg some (by kernel_rfl))
 f279 := Tryz.func159.trans (congrArg some (by kernel_rfl))
 f280 := Tryz.func160.trans (congrArg some (by kernel_rfl))
 f281 := Tryz.func161.trans (congrArg some (by kernel_rfl))
 f282 := Tryz.func162.trans (congrArg some (by kernel_rfl))
 f283 := Tryz.func163.trans (congrArg some (by kernel_rfl))
 f284 := Tryz.func164.trans (congrArg some (by kernel_rfl))
 f285 := Tryz.func165.trans (congrArg some (by kernel_rfl))
 f286 := Tryz.func166.trans (congrArg some (by kernel_rfl))
 f287 := Tryz.func171.trans (congrArg some (by kernel_rfl))
 f316 := Tryz.func172.trans (congrArg some (by kernel_rfl))
 f317 := Tryz.func174.trans (congrArg some (by kernel_rfl))
 f318 := Tryz.func176.trans (congrArg some (by kernel_rfl))
 f319 := Tryz.func177.trans (congrArg some (by kernel_rfl))
 f320 := Tryz.func178.trans (congrArg some (by kernel_rfl))
 f321 := Tryz.func180.trans (congrArg some (by kernel_rfl))
 f322 := Tryz.func181.trans (congrArg some (by kernel_rfl))
 f337 := Tryz.func182.trans (congrArg some (by kernel_rfl))
 f338 := Tryz.func183.trans (congrArg some (by kernel_rfl))
 t0 := Tryz.underlying0
 a0 := Tryz.isAgg0
 z0 := Tryz.sizeOf0
 v0 := Tryz.zeroValue0
 t2 := Tryz.underlying2
 a2 := Tryz.isAgg2
 z2 := Tryz.sizeOf2
 v2 := Tryz.zeroValue2
 t3 := Tryz.underlying3
 a3 := Tryz.isAgg3
 z3 := Tryz.sizeOf3
 v3 := Tryz.zeroValue3
 t4 := Tryz.underlying4
 a4 := Tryz.isAgg4
 z4 := Tryz.sizeOf4
 v4 := Tryz.zeroValue4
 t5 := Tryz.underlying5
 a5 := Tryz.isAgg5
 z5 := Tryz.sizeOf5
 v5 := Tryz.zeroValue5
 t9 := Tryz.underlying9
 a9 := Tryz.isAgg9
 z9 := Tryz.sizeOf9
 v9 := Tryz.zeroValue9
 t20 := Tryz.underlying20
 a20 := Tryz.isAgg20
 z20 := Tryz.sizeOf20
 v20 := Tryz.zeroValue20
 t21 := Tryz.underlying21
 a21 := Tryz.isAgg21
 z21 := Tryz.sizeOf21
 v21 := Tryz.zeroValue21
 t37 := Tryz.underlying189
 a37 := Tryz.isAgg189
 z37 := Tryz.sizeOf189
 v37 := Tryz.zeroValue189
 t46 := Tryz.underlying172
 a46 := Tryz.isAgg172
 z46 := Tryz.sizeOf172
 v46 := Tryz.zeroValue172
 t51 := Tryz.underlying220
 a51 := Tryz.isAgg220
 z51 := Tryz.sizeOf220
 v51 := Tryz.zeroValue220
 t53 := Tryz.underlying125
 a53 := Tryz.isAgg125
 z53 := Tryz.sizeOf125
 v53 := Tryz.zeroValue125
 t75 := Tryz.underlying177
 a75 := Tryz.isAgg177
 z75 := Tryz.sizeOf177
 v75 := Tryz.zeroValue177
 t76 := Tryz.underlying178
 a76 := Tryz.isAgg178
 z76 := Tryz.sizeOf178
 v76 := Tryz.zeroValue178
 t85 := Tryz.underlying208
 a85 := Tryz.isAgg208
 z85 := Tryz.sizeOf208
 v85 := Tryz.zeroValue208
 t127 := Tryz.underlying206
 a127 := Tryz.isAgg206
 z127 := Tryz.sizeOf206
 v127 := Tryz.zeroValue206
 t143 := Tryz.underlying239
 a143 := Tryz.isAgg239
 z143 := Tryz.sizeOf239
 v143 := Tryz.zeroValue239
 t145 := Tryz.underlying241
 a145 := Tryz.isAgg241
 z145 := Tryz.sizeOf241
 v145 := Tryz.zeroValue241
 t167 := Tryz.underlying207
 a167 := Tryz.isAgg207
 z167 := Tryz.sizeOf207
 v167 := Tryz.zeroValue207
 t168 := Tryz.underlying210
 a168 := Tryz.isAgg210
 z168 := Tryz.sizeOf210
 v168 := Tryz.zeroValue210
 t171 := Tryz.underlying213
 a171 := Tryz.isAgg213
 z171 := Tryz.sizeOf213
 v171 := Tryz.zeroValue213
 t173 := Tryz.underlying216
 a173 := Tryz.isAgg216
 z173 := Tryz.sizeOf216
 v173 := Tryz.zeroValue216
 t175 := Tryz.underlying225
 a175 := Tryz.isAgg225
 z175 := Tryz.sizeOf225
 v175 := Tryz.zeroValue225
 t210 := Tryz.underlying229
 a210 := Tryz.isAgg229
 z210 := Tryz.sizeOf229
 v210 := Tryz.zeroValue229
 t212 := Tryz.underlying232
 a212 := Tryz.isAgg232
 z212 := Tryz.sizeOf232
 v212 := Tryz.zeroValue232
 t213 := Tryz.underlying233
 a213 := Tryz.isAgg233
 z213 := Tryz.sizeOf233
 t232 := Tryz.underlying243
 a232 := Tryz.isAgg243
 z232 := Tryz.sizeOf243
 v232 := Tryz.zeroValue243
 t233 := Tryz.underlying244
 a233 := Tryz.isAgg244
 z233 := Tryz.sizeOf244
 v233 := Tryz.zeroValue244
 g15 := by kernel_rfl
 g16 := by kernel_rfl
 g17 := by kernel_rfl
 g18 := by kernel_rfl
 g19 := by kernel_rfl }
open Go.RowKit in
theorem Tryz.strconv_Atoi (s : ByteArray) (n : Int) (hl : s.size ≤ 18) (h : Lib.atoi s.data.toList = some n) (w : World) :
  Calls Tryz.prog 127 #[.string s] w fun e w' => e = .returned (.tuple #[.int .i64 n, .nilIface]) ∧ ∃ t, w' = Lib.bytesWorld w 5 t := Any.strconv_Atoi Tryz.lays172 s n hl h w
def Tryz.lays129_ren : Go.Shelf.Ren := ⟨fun | 129 => 175 | n => n, fun | 53 => 125 | 3 => 3 | 4 => 4 | 46 => 172 | 5 => 5 | 9 => 9 | n => n, fun | n => n⟩
def Tryz.lays317_ren : Go.Shelf.Ren := ⟨fun | 317 => 174 | n => n, fun | 3 => 3 | 46 => 172 | n => n, fun | n => n⟩
def Tryz.lays318_ren : Go.Shelf.Ren := ⟨fun | 318 => 176 | n => n, fun | 3 => 3 | 4 => 4 | n => n, fun | n => n⟩
def Tryz.lays283_ren : Go.Shelf.Ren := ⟨fun | 283 => 163 | n => n, fun | 3 => 3 | 9 => 9 | 4 => 4 | n => n, fun | n => n⟩
theorem Tryz.lays283 : Go.Proofs.Lays.n283 Tryz.prog Tryz.lays283_ren := {
 mixed := by kernel_rfl
 f283 := Tryz.func163.trans (congrArg some (by kernel_rfl))
 t3 := Tryz.underlying3
 a3 := Tryz.isAgg3
 z3 := Tryz.sizeOf3
 v3 := Tryz.zeroValue3
 t4 := Tryz.underlying4
 a4 := Tryz.isAgg4
 z4 := Tryz.sizeOf4
 v4 := Tryz.zeroValue4
 t9 := Tryz.underlying9
 a9 := Tryz.isAgg9
 z9 := Tryz.sizeOf9
 v9 := Tryz.zeroValue9 }
open Go.Lib in
theorem Tryz.internal_strconv_small (i : Nat) (h : i < 100) (w : World) :
  Calls Tryz.prog 163 #[.int .i64 i] w fun e w' => e = .returned (.string ⟨(Lib.decDigits i).toArray⟩) ∧ w' = w := Any.internal_strconv_small Tryz.lays283 i h w
def Tryz.laysM284_ren : Go.Shelf.Ren := ⟨fun | 284 => 164 | 129 => 175 | 317 => 174 | 318 => 176 | n => n, fun | 53 => 125 | 3 => 3 | 212 => 232 | 0 => 0 | 4 => 4 | 46 => 172 | 5 => 5 | 9 => 9 | n => n, fun | 17 => 3 | n => n⟩
theorem Tryz.laysM284 : Go.Proofs.LaysM.n284 Tryz.prog Tryz.laysM284_ren := {
 mixed := by kernel_rfl
 f129 := Tryz.func175.trans (congrArg some (by kernel_rfl))
 f284 := Tryz.func164.trans (congrArg some (by kernel_rfl))
 f317 := Tryz.func174.trans (congrArg some (by kernel_rfl))
 f318 := Tryz.func176.trans (congrArg some (by kernel_rfl))
 t0 := Tryz.underlying0
 a0 := Tryz.isAgg0
 z0 := Tryz.sizeOf0
 v0 := Tryz.zeroValue0
 t3 := Tryz.underlying3
 a3 := Tryz.isAgg3
 z3 := Tryz.sizeOf3
 v3 := Tryz.zeroValue3
 t4 := Tryz.underlying4
 a4 := Tryz.isAgg4
 z4 := Tryz.sizeOf4
 v4 := Tryz.zeroValue4
 t5 := Tryz.underlying5
 a5 := Tryz.isAgg5
 z5 := Tryz.sizeOf5
 v5 := Tryz.zeroValue5
 t9 := Tryz.underlying9
 a9 := Tryz.isAgg9
 z9 := Tryz.sizeOf9
 v9 := Tryz.zeroValue9
 t46 := Tryz.underlying172
 a46 := Tryz.isAgg172
 z46 := Tryz.sizeOf172
 v46 := Tryz.zeroValue172
 t53 := Tryz.underlying125
 a53 := Tryz.isAgg125
 z53 := Tryz.sizeOf125
 v53 := Tryz.zeroValue125
 t212 := Tryz.underlying232
 a212 := Tryz.isAgg232
 z212 := Tryz.sizeOf232
 v212 := Tryz.zeroValue232
 g17 := by kernel_rfl
 i0 := by kernel_rfl
 i3 := by kernel_rfl
 i4 := by kernel_rfl
 i5 := by kernel_rfl
 i9 := by kernel_rfl
 i46 := by kernel_rfl
 i53 := by kernel_rfl
 i212 := by kernel_rfl
 m17 := by kernel_rfl }
open Go.Lib in
theorem Tryz.internal_strconv_numDigits (u : Nat) (h1 : 1 ≤ u) (h2 : u < 18446744073709551616) (w : World) (htab : Lib.TabIs Tryz.prog w "internal/strconv.uint64pow10" .u64 Lib.pow10Tab) :
  Calls Tryz.prog 164 #[.int .u64 u] w fun e w' => e = .returned (.int .i64 (Lib.nDigits u)) ∧ w' = w := Any.internal_strconv_numDigits Tryz.laysM284 u h1 h2 w htab
def Tryz.lays285_ren : Go.Shelf.Ren := ⟨fun | 285 => 165 | n => n, fun | 37 => 189 | 53 => 125 | 3 => 3 | 4 => 4 | 51 => 220 | 9 => 9 | 5 => 5 | 0 => 0 | n => n, fun | n => n⟩
theorem Tryz.lays285 : Go.Proofs.Lays.n285 Tryz.prog Tryz.lays285_ren := {
 mixed := by kernel_rfl
 f285 := Tryz.func165.trans (congrArg some (by kernel_rfl))
 t0 := Tryz.underlying0
 a0 := Tryz.isAgg0
 z0 := Tryz.sizeOf0
 v0 := Tryz.zeroValue0
 t3 := Tryz.underlying3
 a3 := Tryz.isAgg3
 z3 := Tryz.sizeOf3
 v3 := Tryz.zeroValue3
 t4 := Tryz.underlying4
 a4 := Tryz.isAgg4
 z4 := Tryz.sizeOf4
 v4 := Tryz.zeroValue4
 t5 := Tryz.underlying5
 a5 := Tryz.isAgg5
 z5 := Tryz.sizeOf5
 v5 := Tryz.zeroValue5
 t9 := Tryz.underlying9
 a9 := Tryz.isAgg9
 z9 := Tryz.sizeOf9
 v9 := Tryz.zeroValue9
 t37 := Tryz.underlying189
 a37 := Tryz.isAgg189
 z37 := Tryz.sizeOf189
 v37 := Tryz.zeroValue189
 t51 := Tryz.underlying220
 a51 := Tryz.isAgg220
 z51 := Tryz.sizeOf220
 v51 := Tryz.zeroValue220
 t53 := Tryz.underlying125
 a53 := Tryz.isAgg125
 z53 := Tryz.sizeOf125
 v53 := Tryz.zeroValue125 }
open Go.RowKit Go.Sort Go.Lib in
theorem Tryz.internal_strconv_formatBase10 (blk off cap : Nat) (u : Nat) (d : Array UInt8) (w : World) (hH : Holds (fun (b : UInt8) => Value.int .u8 (b.toNat : Int)) w blk off d) (hu : u < 10 ^ d.size) (hu64 : u < 18446744073709551616) (hsz : d.size < 4611686018427387904) :
  Calls Tryz.prog 165 #[.slice (some ⟨blk, off, none⟩) d.size cap, .int .u64 u] w fun e w' =>
   e = .returned (.tuple #[]) ∧ ∃ (n v' : Nat) (dk : Array UInt8), w' = (putRow (fun (b : UInt8) => Value.int .u8 (b.toNat : Int)) w blk off dk).drewN n ∧ FmtInv d.size u 0 v' dk := Any.internal_strconv_formatBase10 Tryz.lays285 blk off cap u d w hH hu hu64 hsz
def Tryz.laysM246_ren : Go.Shelf.Ren := ⟨fun | 246 => 150 | 283 => 163 | 284 => 164 | 285 => 165 | 286 => 166 | 129 => 175 | 317 => 174 | 318 => 176 | 319 => 177 | 320 => 178 | 337 => 182 | 338 => 183 | n => n, fun | 2 => 2 | 3 => 3 | 9 => 9 | 4 => 4 | 171 => 213 | 0 => 0 | 53 => 125 | 37 => 189 | 5 => 5 | 173 => 216 | 212 => 232 | 51 => 220 | 20 => 20 | 213 => 233 | 46 => 172 | 232 => 243 | 233 => 244 | n => n, fun | 17 => 3 | 18 => 4 | 19 => 5 | n => n⟩
def Tryz.lays246_ren : Go.Shelf.Ren := ⟨fun | 246 => 150 | 283 => 163 | 284 => 164 | 285 => 165 | 286 => 166 | 129 => 175 | 317 => 174 | 318 => 176 | 319 => 177 | 320 => 178 | 337 => 182 | 338 => 183 | n => n, fun | 2 => 2 | 3 => 3 | 9 => 9 | 4 => 4 | 171 => 213 | 0 => 0 | 53 => 125 | 37 => 189 | 5 => 5 | 173 => 216 | 212 => 232 | 51 => 220 | 20 => 20 | 213 => 233 | 46 => 172 | 232 => 243 | 233 => 244 | n => n, fun | 17 => 3 | 18 => 4 | 19 => 5 | n => n⟩
def Tryz.laysM243_ren : Go.Shelf.Ren := ⟨fun | 243 => 138 | 246 => 150 | 283 => 163 | 284 => 164 | 285 => 165 | 286 => 166 | 129 => 175 | 317 => 174 | 318 => 176 | 319 => 177 | 320 => 178 | 337 => 182 | 338 => 183 | n => n, fun | 3 => 3 | 9 => 9 | 2 => 2 | 4 => 4 | 171 => 213 | 0 => 0 | 53 => 125 | 37 => 189 | 5 => 5 | 173 => 216 | 212 => 232 | 51 => 220 | 20 => 20 | 213 => 233 | 46 => 172 | 232 => 243 | 233 => 244 | n => n, fun | 17 => 3 | 18 => 4 | 19 => 5 | n => n⟩
def Tryz.lays243_ren : Go.Shelf.Ren := ⟨fun | 243 => 138 | 246 => 150 | 283 => 163 | 284 => 164 | 285 => 165 | 286 => 166 | 129 => 175 | 317 => 174 | 318 => 176 | 319 => 177 | 320 => 178 | 337 => 182 | 338 => 183 | n => n, fun | 3 => 3 | 9 => 9 | 2 => 2 | 4 => 4 | 171 => 213 | 0 => 0 | 53 => 125 | 37 => 189 | 5 => 5 | 173 => 216 | 212 => 232 | 51 => 220 | 20 => 20 | 213 => 233 | 46 => 172 | 232 => 243 | 233 => 244 | n => n, fun | 17 => 3 | 18 => 4 | 19 => 5 | n => n⟩
def Tryz.laysM171_ren : Go.Shelf.Ren := ⟨fun | 171 => 122 | 243 => 138 | 246 => 150 | 283 => 163 | 284 => 164 | 285 => 165 | 286 => 166 | 129 => 175 | 317 => 174 | 318 => 176 | 319 => 177 | 320 => 178 | 337 => 182 | 338 => 183 | n => n, fun | 3 => 3 | 9 => 9 | 2 => 2 | 4 => 4 | 171 => 213 | 0 => 0 | 53 => 125 | 37 => 189 | 5 => 5 | 173 => 216 | 212 => 232 | 51 => 220 | 20 => 20 | 213 => 233 | 46 => 172 | 232 => 243 | 233 => 244 | n => n, fun | 17 => 3 | 18 => 4 | 19 => 5 | n => n⟩
theorem Tryz.laysM171 : Go.Proofs.LaysM.n171 Tryz.prog Tryz.laysM171_ren := {
 mixed := by kernel_rfl
 f129 := Tryz.func175.trans (congrArg some (by kernel_rfl))
 f171 := Tryz.func122.trans (congrArg some (by kernel_rfl))
 f243 := Tryz.func138.trans (congrArg some (by kernel_rfl))
 f246 := Tryz.func150.trans (congrArg some (by kernel_rfl))
 f283 := Tryz.func163.trans (congrArg some (by kernel_rfl))
 f284 := Tryz.func164.trans (congrArg some (by kernel_rfl))
 f285 := Tryz.func165.trans (congrArg some (by kernel_rfl))
 f286 := Tryz.func166.trans (congrArg some (by kernel_rfl))
 f317 := Tryz.func174.trans (congrArg some (by kernel_rfl))
 f318 := Tryz.func176.trans (congrArg some (by kernel_rfl))
 f319 := Tryz.func177.trans (congrArg some (by kernel_rfl))
 f320 := Tryz.func178.trans (congrArg some (by kernel_rfl))
 f337 := Tryz.func182.trans (congrArg some (by kernel_rfl))
 f338 := Tryz.func183.trans (congrArg some (by kernel_rfl))
 t0 := Tryz.underlying0
 a0 := Tryz.isAgg0
 z0 := Tryz.sizeOf0
 v0 := Tryz.zeroValue0
 t2 := Tryz.underlying2
 a2 := Tryz.isAgg2
 z2 := Tryz.sizeOf2
 v2 := Tryz.zeroValue2
 t3 := Tryz.underlying3
 a3 := Tryz.isAgg3
 z3 := Tryz.sizeOf3
 v3 := Tryz.zeroValue3
 t4 := Tryz.underlying4
 a4 := Tryz.isAgg4
 z4 := Tryz.sizeOf4
 v4 := Tryz.zeroValue4
 t5 := Tryz.underlying5
 a5 := Tryz.isAgg5
 z5 := Tryz.sizeOf5
 v5 := Tryz.zeroValue5
 t9 := Tryz.underlying9
 a9 := Tryz.isAgg9
 z9 := Tryz.sizeOf9
 v9 := Tryz.zeroValue9
 t20 := Tryz.underlying20
 a20 := Tryz.isAgg20
 z20 := Tryz.sizeOf20
 v20 := Tryz.zeroValue20
 t37 := Tryz.underlying189
 a37 := Tryz.isAgg189
 z37 := Tryz.sizeOf189
 v37 := Tryz.zeroValue189
 t46 := Tryz.underlying172
 a46 := Tryz.isAgg172
 z46 := Tryz.sizeOf172
 v46 := Tryz.zeroValue172
 t51 := Tryz.underlying220
 a51 := Tryz.isAgg220
 z51 := Tryz.sizeOf220
 v51 := Tryz.zeroValue220
 t53 := Tryz.underlying125
 a53 := Tryz.isAgg125
 z53 := Tryz.sizeOf125
 v53 := Tryz.zeroValue125
 t171 := Tryz.underlying213
 a171 := Tryz.isAgg213
 z171 := Tryz.sizeOf213
 v171 := Tryz.zeroValue213
 t173 := Tryz.underlying216
 a173 := Tryz.isAgg216
 z173 := Tryz.sizeOf216
 v173 := Tryz.zeroValue216
 t212 := Tryz.underlying232
 a212 := Tryz.isAgg232
 z212 := Tryz.sizeOf232
 v212 := Tryz.zeroValue232
 t213 := Tryz.underlying233
 a213 := Tryz.isAgg233
 z213 := Tryz.sizeOf233
 t232 := Tryz.underlying243
 a232 := Tryz.isAgg243
 z232 := Tryz.sizeOf243
 v232 := Tryz.zeroValue243
 t233 := Tryz.underlying244
 a233 := Tryz.isAgg244
 z233 := Tryz.sizeOf244
 v233 := Tryz.zeroValue244
 g17 := by kernel_rfl
 g18 := by kernel_rfl
 g19 := by kernel_rfl
 i0 := by kernel_rfl
 i2 := by kernel_rfl
 i3 := by kernel_rfl
 i4 := by kernel_rfl
 i5 := by kernel_rfl
 i9 := by kernel_rfl
 i20 := by kernel_rfl
 i37 := by kernel_rfl
 i46 := by kernel_rfl
 i51 := by kernel_rfl
 i53 := by kernel_rfl
 i171 := by kernel_rfl
 i173 := by kernel_rfl
 i212 := by kernel_rfl
 i232 := by kernel_rfl
 i233 := by kernel_rfl
 m17 := by kernel_rfl
 m18 := by kernel_rfl
 m19 := by kernel_rfl }
open Go.RowKit Go.Sort Go.Lib in
theorem Tryz.strconv_Itoa (n : Int) (h0 : -9223372036854775808 ≤ n) (h1 : n ≤ 9223372036854775807) (w : World) (htab : Lib.TabIs Tryz.prog w "internal/strconv.uint64pow10" .u64 Lib.pow10Tab) :
  Calls Tryz.prog 122 #[.int .i64 n] w fun e w' => e = .returned (.string ⟨(Lib.itoa n).toArray⟩) ∧ ∃ k os, w' = grow (w.drewN k) os := Any.strconv_Itoa Tryz.laysM171 n h0 h1 w htab
def Tryz.lays171_ren : Go.Shelf.Ren := ⟨fun | 171 => 122 | 243 => 138 | 246 => 150 | 283 => 163 | 284 => 164 | 285 => 165 | 286 => 166 | 129 => 175 | 317 => 174 | 318 => 176 | 319 => 177 | 320 => 178 | 337 => 182 | 338 => 183 | n => n, fun | 3 => 3 | 9 => 9 | 2 => 2 | 4 => 4 | 171 => 213 | 0 => 0 | 53 => 125 | 37 => 189 | 5 => 5 | 173 => 216 | 212 => 232 | 51 => 220 | 20 => 20 | 213 => 233 | 46 => 172 | 232 => 243 | 233 => 244 | n => n, fun | 17 => 3 | 18 => 4 | 19 => 5 | n => n⟩
def Tryz.lays206_ren : Go.Shelf.Ren := ⟨fun | 206 => 139 | n => n, fun | 9 => 9 | 4 => 4 | 3 => 3 | n => n, fun | n => n⟩
def Tryz.lays99_ren : Go.Shelf.Ren := ⟨fun | 99 => 123 | 206 => 139 | n => n, fun | 9 => 9 | 4 => 4 | 3 => 3 | n => n, fun | n => n⟩
theorem Tryz.lays99 : Go.Proofs.Lays.n99 Tryz.prog Tryz.lays99_ren := {
 mixed := by kernel_rfl
 f99 := Tryz.func123.trans (congrArg some (by kernel_rfl))
 f206 := Tryz.func139.trans (congrArg some (by kernel_rfl))
 t3 := Tryz.underlying3
 a3 := Tryz.isAgg3
 z3 := Tryz.sizeOf3
 v3 := Tryz.zeroValue3
 t4 := Tryz.underlying4
 a4 := Tryz.isAgg4
 z4 := Tryz.sizeOf4
 v4 := Tryz.zeroValue4
 t9 := Tryz.underlying9
 a9 := Tryz.isAgg9
 z9 := Tryz.sizeOf9
 v9 := Tryz.zeroValue9 }
open Go.RowKit Go.Lib in
theorem Tryz.strings_HasPrefix (s p : ByteArray) (w : World) :
  Calls Tryz.prog 123 #[.string s, .string p] w fun e w' => e = .returned (.bool (Lib.hasPrefix s.data.toList p.data.toList)) ∧ w' = w := Any.strings_HasPrefix Tryz.lays99 s p w
def Tryz.lays264_ren : Go.Shelf.Ren := ⟨fun | 264 => 169 | n => n, fun | 53 => 125 | 46 => 172 | n => n, fun | n => n⟩
def Tryz.lays212_ren : Go.Shelf.Ren := ⟨fun | 212 => 154 | 263 => 168 | 264 => 169 | n => n, fun | 46 => 172 | 51 => 220 | 146 => 221 | 53 => 125 | 148 => 223 | n => n, fun | n => n⟩
def Tryz.lays105_ren : Go.Shelf.Ren := ⟨fun | 105 => 143 | 212 => 154 | 99 => 123 | 165 => 155 | 166 => 142 | 170 => 156 | 169 => 144 | 263 => 168 | 264 => 169 | 206 => 139 | 240 => 153 | 241 => 170 | 276 => 167 | 277 => 179 | n => n, fun | 9 => 9 | 3 => 3 | 4 => 4 | 20 => 20 | 0 => 0 | 46 => 172 | 109 => 202 | 5 => 5 | 72 => 192 | 76 => 178 | 51 => 220 | 146 => 221 | 53 => 125 | 148 => 223 | 70 => 190 | 37 => 189 | 75 => 177 | 127 => 206 | 164 => 218 | 80 => 171 | n => n, fun | n => n⟩
theorem Tryz.lays105 : Go.Proofs.Lays.n105 Tryz.prog Tryz.lays105_ren := {
 mixed := by kernel_rfl
 f99 := Tryz.func123.trans (congrArg some (by kernel_rfl))
 f105 := Tryz.func143.trans (congrArg some (by kernel_rfl))
 f165 := Tryz.func155.trans (congrArg some (by kernel_rfl))
 f166 := Tryz.func142.trans (congrArg some (by kernel_rfl))
 f169 := Tryz.func144.trans (congrArg some (by kernel_rfl))
 f170 := Tryz.func156.trans (congrArg some (by kernel_rfl))
 f206 := Tryz.func139.trans (congrArg some (by kernel_rfl))
 f212 := Tryz.func154.trans (congrArg some (by kernel_rfl))
 f240 := Tryz.func153.trans (congrArg some (by kernel_rfl))
 f241 := Tryz.func170.trans (congrArg some (by kernel_rfl))
 f263 := Tryz.func168.trans (congrArg some (by kernel_rfl))
 f264 := Tryz.func169.trans (congrArg some (by kernel_rfl))
 f276 := Tryz.func167.trans (congrArg some (by kernel_rfl))
 f277 := Tryz.func179.trans (congrArg some (by kernel_rfl))
 t0 := Tryz.underlying0
 a0 := Tryz.isAgg0
 z0 := Tryz.sizeOf0
 v0 := Tryz.zeroValue0
 t3 := Tryz.underlying3
 a3 := Tryz.isAgg3
 z3 := Tryz.sizeOf3
 v3 := Tryz.zeroValue3
 t4 := Tryz.underlying4
 a4 := Tryz.isAgg4
 z4 := Tryz.sizeOf4
 v4 := Tryz.zeroValue4
 t5 := Tryz.underlying5
 a5 := Tryz.isAgg5
 z5 := Tryz.sizeOf5
 v5 := Tryz.zeroValue5
 t9 := Tryz.underlying9
 a9 := Tryz.isAgg9
 z9 := Tryz.sizeOf9
 v9 := Tryz.zeroValue9
 t20 := Tryz.underlying20
 a20 := Tryz.isAgg20
 z20 := Tryz.sizeOf20
 v20 := Tryz.zeroValue20
 t37 := Tryz.underlying189
 a37 := Tryz.isAgg189
 z37 := Tryz.sizeOf189
 v37 := Tryz.zeroValue189
 t46 := Tryz.underlying172
 a46 := Tryz.isAgg172
 z46 := Tryz.sizeOf172
 v46 := Tryz.zeroValue172
 t51 := Tryz.underlying220
 a51 := Tryz.isAgg220
 z51 := Tryz.sizeOf220
 v51 := Tryz.zeroValue220
 t53 := Tryz.underlying125
 a53 := Tryz.isAgg125
 z53 := Tryz.sizeOf125
 v53 := Tryz.zeroValue125
 t70 := Tryz.underlying190
 a70 := Tryz.isAgg190
 z70 := Tryz.sizeOf190
 v70 := Tryz.zeroValue190
 t72 := Tryz.underlying192
 a72 := Tryz.isAgg192
 z72 := Tryz.sizeOf192
 v72 := Tryz.zeroValue192
 t75 := Tryz.underlying177
 a75 := Tryz.isAgg177
 z75 := Tryz.sizeOf177
 v75 := Tryz.zeroValue177
 t76 := Tryz.underlying178
 a76 := Tryz.isAgg178
 z76 := Tryz.sizeOf178
 v76 := Tryz.zeroValue178
 t109 := Tryz.underlying202
 a109 := Tryz.isAgg202
 z109 := Tryz.sizeOf202
 v109 := Tryz.zeroValue202
 t127 := Tryz.underlying206
 a127 := Tryz.isAgg206
 z127 := Tryz.sizeOf206
 v127 := Tryz.zeroValue206
 t146 := Tryz.underlying221
 a146 := Tryz.isAgg221
 z146 := Tryz.sizeOf221
 v146 := Tryz.zeroValue221
 t148 := Tryz.underlying223
 a148 := Tryz.isAgg223
 z148 := Tryz.sizeOf223
 v148 := Tryz.zeroValue223
 t164 := Tryz.underlying218
 a164 := Tryz.isAgg218
 z164 := Tryz.sizeOf218
 v164 := Tryz.zeroValue218 }
theorem Tryz.Builder_Extra_105 : Builder.Extra Tryz.prog Tryz.lays105_ren := {
 sizeBuilder := by kernel_rfl
 liesBuilder := by kernel_rfl
 t5 := Tryz.underlying5
 a5 := Tryz.isAgg5
 z5 := Tryz.sizeOf5
 v5 := Tryz.zeroValue5
 infoByte := by kernel_rfl
 cellsByte := by kernel_rfl
 sizeByte := by kernel_rfl
 neB5 := by decide }
open Go.RowKit Go.Lib in
theorem Tryz.strings_Repeat (s : ByteArray) (c : Nat) (w : World) (hc : c ≤ 9223372036854775807) (hlen : s.size * c ≤ 140737488355328) :
  Calls Tryz.prog 143 #[.string s, .int .i64 c] w fun e w' => e = .returned (.string ⟨(Lib.repeatL s.data.toList c).toArray⟩) ∧ Below w.heap.size w w' := Any.strings_Repeat Tryz.lays105 Tryz.Builder_Extra_105 s c w hc hlen
end Go.Proofs
