/- Part 2 of 47 of the proof of the law: contracts of the functions that it reaches, and plain facts. Conditions: those that each contract names. -/
import Derived.Shelf.Strings.Builder1
import Derived.Shelf.Strings.Builder2
import Derived.Shelf.Small.Bits
import Derived.Shelf.Small.Strs
import Derived.Shelf.Small.Wraps
import Derived.Shelf.Strings.BuilderF
import Derived.Shelf.Strings.BuilderK
import Derived.Shelf.Strings.Builder2Cap
import Derived.Shelf.Strconv.Itoa0
import Derived.Shelf.Strconv.Itoa1
import Derived.Shelf.LaysM
import Derived.Shelf.Strconv.Itoa2
import Derived.Shelf.Strconv.Itoa3
import Derived.Shelf.Strings.Prefix
import Derived.Shelf.Bits.Mul64
import Derived.Shelf.Strings.Repeat
import Derived.Shelf.Strings.BuilderCap
import Derived.Ground.SlsfProg
import Derived.Shelf.SlSortCmp.Insertion
import Derived.Shelf.SlSortCmp.Insertion1
import Derived.Shelf.SlSortCmp.ReverseRange1
import Derived.Test.YtendjepcjmfmfaaGreatDoorProg
namespace Go.Proofs
open Go.Shelf
def Tryz.lays170_ren : Go.Shelf.Ren := ⟨fun | 170 => 143 | n => n, fun | 70 => 184 | 3 => 3 | 0 => 0 | 72 => 187 | 37 => 185 | 5 => 5 | n => n, fun | n => n⟩
def Tryz.lays169_ren : Go.Shelf.Ren := ⟨fun | 169 => 113 | n => n, fun | 70 => 184 | 9 => 9 | 0 => 0 | 72 => 187 | 37 => 185 | 127 => 218 | 3 => 3 | 5 => 5 | n => n, fun | n => n⟩
theorem Tryz.lays169 : Go.Proofs.Lays.n169 Tryz.prog Tryz.lays169_ren := {
 mixed := by kernel_rfl
 f169 := Tryz.func113.trans (congrArg some (by kernel_rfl))
 t0 := Tryz.underlying0
 a0 := Tryz.isAgg0
 z0 := Tryz.sizeOf0
 v0 := Tryz.zeroValue0
 t3 := Tryz.underlying3
 a3 := Tryz.isAgg3
 z3 := Tryz.sizeOf3
 v3 := Tryz.zeroValue3
 t9 := Tryz.underlying9
 a9 := Tryz.isAgg9
 z9 := Tryz.sizeOf9
 v9 := Tryz.zeroValue9
 t37 := Tryz.underlying185
 a37 := Tryz.isAgg185
 z37 := Tryz.sizeOf185
 v37 := Tryz.zeroValue185
 t70 := Tryz.underlying184
 a70 := Tryz.isAgg184
 z70 := Tryz.sizeOf184
 v70 := Tryz.zeroValue184
 t72 := Tryz.underlying187
 a72 := Tryz.isAgg187
 z72 := Tryz.sizeOf187
 v72 := Tryz.zeroValue187
 t127 := Tryz.underlying218
 a127 := Tryz.isAgg218
 z127 := Tryz.sizeOf218
 v127 := Tryz.zeroValue218 }
theorem Tryz.Builder_Extra_169 : Builder.Extra Tryz.prog Tryz.lays169_ren := {
 sizeBuilder := by kernel_rfl
 liesBuilder := by kernel_rfl
 t5 := Tryz.underlying5
 a5 := Tryz.isAgg5
 z5 := Tryz.sizeOf5
 v5 := Tryz.zeroValue5
 infoByte := by kernel_rfl
 cellsByte := by kernel_rfl
 sizeByte := by kernel_rfl
 neB5 := by decide }
def Tryz.lays241_ren : Go.Shelf.Ren := ⟨fun | 241 => 166 | 277 => 177 | n => n, fun | 70 => 184 | 3 => 3 | 0 => 0 | 72 => 187 | 37 => 185 | 5 => 5 | n => n, fun | n => n⟩
def Tryz.lays165_ren : Go.Shelf.Ren := ⟨fun | 165 => 142 | 240 => 140 | 241 => 166 | 276 => 163 | 277 => 177 | n => n, fun | 70 => 184 | 3 => 3 | 0 => 0 | 4 => 4 | 9 => 9 | 20 => 20 | 72 => 187 | 37 => 185 | 164 => 237 | 5 => 5 | n => n, fun | n => n⟩
def Tryz.lays128_ren : Go.Shelf.Ren := ⟨fun | 128 => 134 | n => n, fun | 51 => 210 | 3 => 3 | 4 => 4 | 46 => 160 | 5 => 5 | 9 => 9 | n => n, fun | n => n⟩
def Tryz.lays125_ren : Go.Shelf.Ren := ⟨fun | 125 => 104 | 128 => 134 | 129 => 135 | n => n, fun | 46 => 160 | 3 => 3 | 51 => 210 | 53 => 145 | 4 => 4 | 5 => 5 | 9 => 9 | n => n, fun | n => n⟩
def Tryz.lays213_ren : Go.Shelf.Ren := ⟨fun | 213 => 118 | 265 => 146 | n => n, fun | 9 => 9 | 3 => 3 | n => n, fun | n => n⟩
def Tryz.lays106_ren : Go.Shelf.Ren := ⟨fun | 106 => 96 | 213 => 118 | 265 => 146 | n => n, fun | 9 => 9 | 3 => 3 | n => n, fun | n => n⟩
theorem Tryz.lays106 : Go.Proofs.Lays.n106 Tryz.prog Tryz.lays106_ren := {
 mixed := by kernel_rfl
 f106 := Tryz.func96.trans (congrArg some (by kernel_rfl))
 f213 := Tryz.func118.trans (congrArg some (by kernel_rfl))
 f265 := Tryz.func146.trans (congrArg some (by kernel_rfl))
 t3 := Tryz.underlying3
 a3 := Tryz.isAgg3
 z3 := Tryz.sizeOf3
 v3 := Tryz.zeroValue3
 t9 := Tryz.underlying9
 a9 := Tryz.isAgg9
 z9 := Tryz.sizeOf9
 v9 := Tryz.zeroValue9 }
open Go.RowKit in
theorem Tryz.strings_Compare (a b : ByteArray) (w : World) :
  Calls Tryz.prog 96 #[.string a, .string b] w fun e w' => e = .returned (.int .i64 (Lib.compareBytes a.data.toList b.data.toList)) ∧ w' = w := Any.strings_Compare Tryz.lays106 a b w
def Tryz.lays210_ren : Go.Shelf.Ren := ⟨fun | 210 => 117 | 206 => 145 | n => n, fun | 9 => 9 | 4 => 4 | 3 => 3 | n => n, fun | n => n⟩
def Tryz.lays103_ren : Go.Shelf.Ren := ⟨fun | 103 => 95 | 210 => 117 | 206 => 145 | n => n, fun | 9 => 9 | 4 => 4 | 24 => 167 | 3 => 3 | n => n, fun | n => n⟩
theorem Tryz.lays103 : Go.Proofs.Lays.n103 Tryz.prog Tryz.lays103_ren := {
 mixed := by kernel_rfl
 f103 := Tryz.func95.trans (congrArg some (by kernel_rfl))
 f206 := Tryz.func145.trans (congrArg some (by kernel_rfl))
 f210 := Tryz.func117.trans (congrArg some (by kernel_rfl))
 t3 := Tryz.underlying3
 a3 := Tryz.isAgg3
 z3 := Tryz.sizeOf3
 v3 := Tryz.zeroValue3
 t4 := Tryz.underlying4
 a4 := Tryz.isAgg4
 z4 := Tryz.sizeOf4
 v4 := Tryz.zeroValue4
 t9 := Tryz.underlying9
 a9 := Tryz.isAgg9
 z9 := Tryz.sizeOf9
 v9 := Tryz.zeroValue9
 t24 := Tryz.underlying167
 a24 := Tryz.isAgg167
 z24 := Tryz.sizeOf167
 v24 := Tryz.zeroValue167 }
open Go.RowKit in
theorem Tryz.strings_CutPrefix (s p : ByteArray) (w : World) :
  Calls Tryz.prog 95 #[.string s, .string p] w fun e w' => e = .returned (.tuple #[.string ⟨(Lib.trimPrefix s.data.toList p.data.toList).toArray⟩, .bool (Lib.hasPrefix s.data.toList p.data.toList)]) ∧ w' = w := Any.strings_CutPrefix Tryz.lays103 s p w
def Tryz.lays215_ren : Go.Shelf.Ren := ⟨fun | 215 => 105 | n => n, fun | 3 => 3 | 4 => 4 | n => n, fun | n => n⟩
def Tryz.lays122_ren : Go.Shelf.Ren := ⟨fun | 122 => 74 | 215 => 105 | n => n, fun | 3 => 3 | 4 => 4 | n => n, fun | n => n⟩
theorem Tryz.lays122 : Go.Proofs.Lays.n122 Tryz.prog Tryz.lays122_ren := {
 mixed := by kernel_rfl
 f122 := Tryz.func74.trans (congrArg some (by kernel_rfl))
 f215 := Tryz.func105.trans (congrArg some (by kernel_rfl))
 t3 := Tryz.underlying3
 a3 := Tryz.isAgg3
 z3 := Tryz.sizeOf3
 v3 := Tryz.zeroValue3
 t4 := Tryz.underlying4
 a4 := Tryz.isAgg4
 z4 := Tryz.sizeOf4
 v4 := Tryz.zeroValue4 }
open Go.RowKit in
theorem Tryz.cmp_Compare_int (x y : Int) (w : World) :
  Calls Tryz.prog 74 #[.int .i64 x, .int .i64 y] w fun e w' => e = .returned (.int .i64 (Lib.compareInt x y)) ∧ w' = w := Any.cmp_Compare_int Tryz.lays122 x y w
open Go.RowKit in
theorem Tryz.Builder_String_k (B b : Nat) (l : List UInt8) (w : World) (h : Lib.IsBuilderF 187 5 B b (Lib.byteCells l) w) (h0 : l ≠ []) :
  Calls Tryz.prog 113 #[.pointer (some ⟨b, 0, none⟩)] w fun e w' => e = .returned (.string ⟨l.toArray⟩) ∧ (Lib.IsBuilderF 187 5 B b (Lib.byteCells l) w' ∧ Below B w w' ∧ Lib.OthersKept 5 (some b) w w') := Any.Builder_String_k Tryz.lays169 Tryz.Builder_Extra_169 B b l w h h0
def Tryz.lays129_ren : Go.Shelf.Ren := ⟨fun | 129 => 135 | n => n, fun | 53 => 145 | 3 => 3 | 4 => 4 | 46 => 160 | 5 => 5 | 9 => 9 | n => n, fun | n => n⟩
def Tryz.lays317_ren : Go.Shelf.Ren := ⟨fun | 317 => 173 | n => n, fun | 3 => 3 | 46 => 160 | n => n, fun | n => n⟩
def Tryz.lays318_ren : Go.Shelf.Ren := ⟨fun | 318 => 174 | n => n, fun | 3 => 3 | 4 => 4 | n => n, fun | n => n⟩
def Tryz.lays283_ren : Go.Shelf.Ren := ⟨fun | 283 => 159 | n => n, fun | 3 => 3 | 9 => 9 | 4 => 4 | n => n, fun | n => n⟩
theorem Tryz.lays283 : Go.Proofs.Lays.n283 Tryz.prog Tryz.lays283_ren := {
 mixed := by kernel_rfl
 f283 := Tryz.func159.trans (congrArg some (by kernel_rfl))
 t3 := Tryz.underlying3
 a3 := Tryz.isAgg3
 z3 := Tryz.sizeOf3
 v3 := Tryz.zeroValue3
 t4 := Tryz.underlying4
 a4 := Tryz.isAgg4
 z4 := Tryz.sizeOf4
 v4 := Tryz.zeroValue4
 t9 := Tryz.underlying9
 a9 := Tryz.isAgg9
 z9 := Tryz.sizeOf9
 v9 := Tryz.zeroValue9 }
open Go.Lib in
theorem Tryz.internal_strconv_small (i : Nat) (h : i < 100) (w : World) :
  Calls Tryz.prog 159 #[.int .i64 i] w fun e w' => e = .returned (.string ⟨(Lib.decDigits i).toArray⟩) ∧ w' = w := Any.internal_strconv_small Tryz.lays283 i h w
def Tryz.laysM284_ren : Go.Shelf.Ren := ⟨fun | 284 => 160 | 129 => 135 | 317 => 173 | 318 => 174 | n => n, fun | 53 => 145 | 3 => 3 | 212 => 250 | 0 => 0 | 4 => 4 | 46 => 160 | 5 => 5 | 9 => 9 | n => n, fun | 17 => 1 | n => n⟩
theorem Tryz.laysM284 : Go.Proofs.LaysM.n284 Tryz.prog Tryz.laysM284_ren := {
 mixed := by kernel_rfl
 f129 := Tryz.func135.trans (congrArg some (by kernel_rfl))
 f284 := Tryz.func160.trans (congrArg some (by kernel_rfl))
 f317 := Tryz.func173.trans (congrArg some (by kernel_rfl))
 f318 := Tryz.func174.trans (congrArg some (by kernel_rfl))
 t0 := Tryz.underlying0
 a0 := Tryz.isAgg0
 z0 := Tryz.sizeOf0
 v0 := Tryz.zeroValue0
 t3 := Tryz.underlying3
 a3 := Tryz.isAgg3
 z3 := Tryz.sizeOf3
 v3 := Tryz.zeroValue3
 t4 := Tryz.underlying4
 a4 := Tryz.isAgg4
 z4 := Tryz.sizeOf4
 v4 := Tryz.zeroValue4
 t5 := Tryz.underlying5
 a5 := Tryz.isAgg5
 z5 := Tryz.sizeOf5
 v5 := Tryz.zeroValue5
 t9 := Tryz.underlying9
 a9 := Tryz.isAgg9
 z9 := Tryz.sizeOf9
 v9 := Tryz.zeroValue9
 t46 := Tryz.underlying160
 a46 := Tryz.isAgg160
 z46 := Tryz.sizeOf160
 v46 := Tryz.zeroValue160
 t53 := Tryz.underlying145
 a53 := Tryz.isAgg145
 z53 := Tryz.sizeOf145
 v53 := Tryz.zeroValue145
 t212 := Tryz.underlying250
 a212 := Tryz.isAgg250
 z212 := Tryz.sizeOf250
 v212 := Tryz.zeroValue250
 g17 := by kernel_rfl
 i0 := by kernel_rfl
 i3 := by kernel_rfl
 i4 := by kernel_rfl
 i5 := by kernel_rfl
 i9 := by kernel_rfl
 i46 := by kernel_rfl
 i53 := by kernel_rfl
 i212 := by kernel_rfl
 m17 := by kernel_rfl }
open Go.Lib in
theorem Tryz.internal_strconv_numDigits (u : Nat) (h1 : 1 ≤ u) (h2 : u < 18446744073709551616) (w : World) (htab : Lib.TabIs Tryz.prog w "internal/strconv.uint64pow10" .u64 Lib.pow10Tab) :
  Calls Tryz.prog 160 #[.int .u64 u] w fun e w' => e = .returned (.int .i64 (Lib.nDigits u)) ∧ w' = w := Any.internal_strconv_numDigits Tryz.laysM284 u h1 h2 w htab
def Tryz.lays285_ren : Go.Shelf.Ren := ⟨fun | 285 => 161 | n => n, fun | 37 => 185 | 53 => 145 | 3 => 3 | 4 => 4 | 51 => 210 | 9 => 9 | 5 => 5 | 0 => 0 | n => n, fun | n => n⟩
theorem Tryz.lays285 : Go.Proofs.Lays.n285 Tryz.prog Tryz.lays285_ren := {
 mixed := by kernel_rfl
 f285 := Tryz.func161.trans (congrArg some (by kernel_rfl))
 t0 := Tryz.underlying0
 a0 := Tryz.isAgg0
 z0 := Tryz.sizeOf0
 v0 := Tryz.zeroValue0
 t3 := Tryz.underlying3
 a3 := Tryz.isAgg3
 z3 := Tryz.sizeOf3
 v3 := Tryz.zeroValue3
 t4 := Tryz.underlying4
 a4 := Tryz.isAgg4
 z4 := Tryz.sizeOf4
 v4 := Tryz.zeroValue4
 t5 := Tryz.underlying5
 a5 := Tryz.isAgg5
 z5 := Tryz.sizeOf5
 v5 := Tryz.zeroValue5
 t9 := Tryz.underlying9
 a9 := Tryz.isAgg9
 z9 := Tryz.sizeOf9
 v9 := Tryz.zeroValue9
 t37 := Tryz.underlying185
 a37 := Tryz.isAgg185
 z37 := Tryz.sizeOf185
 v37 := Tryz.zeroValue185
 t51 := Tryz.underlying210
 a51 := Tryz.isAgg210
 z51 := Tryz.sizeOf210
 v51 := Tryz.zeroValue210
 t53 := Tryz.underlying145
 a53 := Tryz.isAgg145
 z53 := Tryz.sizeOf145
 v53 := Tryz.zeroValue145 }
open Go.RowKit Go.Sort Go.Lib in
theorem Tryz.internal_strconv_formatBase10 (blk off cap : Nat) (u : Nat) (d : Array UInt8) (w : World) (hH : Holds (fun (b : UInt8) => Value.int .u8 (b.toNat : Int)) w blk off d) (hu : u < 10 ^ d.size) (hu64 : u < 18446744073709551616) (hsz : d.size < 4611686018427387904) :
  Calls Tryz.prog 161 #[.slice (some ⟨blk, off, none⟩) d.size cap, .int .u64 u] w fun e w' =>
   e = .returned (.tuple #[]) ∧ ∃ (n v' : Nat) (dk : Array UInt8), w' = (putRow (fun (b : UInt8) => Value.int .u8 (b.toNat : Int)) w blk off dk).drewN n ∧ FmtInv d.size u 0 v' dk := Any.internal_strconv_formatBase10 Tryz.lays285 blk off cap u d w hH hu hu64 hsz
def Tryz.laysM246_ren : Go.Shelf.Ren := ⟨fun | 246 => 144 | 283 => 159 | 284 => 160 | 285 => 161 | 286 => 162 | 129 => 135 | 317 => 173 | 318 => 174 | 319 => 175 | 320 => 176 | 337 => 180 | 338 => 181 | n => n, fun | 2 => 2 | 3 => 3 | 9 => 9 | 4 => 4 | 171 => 233 | 0 => 0 | 53 => 145 | 37 => 185 | 5 => 5 | 173 => 235 | 212 => 250 | 51 => 210 | 20 => 20 | 213 => 251 | 46 => 160 | 232 => 260 | 233 => 261 | n => n, fun | 17 => 1 | 18 => 2 | 19 => 3 | n => n⟩
def Tryz.lays246_ren : Go.Shelf.Ren := ⟨fun | 246 => 144 | 283 => 159 | 284 => 160 | 285 => 161 | 286 => 162 | 129 => 135 | 317 => 173 | 318 => 174 | 319 => 175 | 320 => 176 | 337 => 180 | 338 => 181 | n => n, fun | 2 => 2 | 3 => 3 | 9 => 9 | 4 => 4 | 171 => 233 | 0 => 0 | 53 => 145 | 37 => 185 | 5 => 5 | 173 => 235 | 212 => 250 | 51 => 210 | 20 => 20 | 213 => 251 | 46 => 160 | 232 => 260 | 233 => 261 | n => n, fun | 17 => 1 | 18 => 2 | 19 => 3 | n => n⟩
def Tryz.laysM243_ren : Go.Shelf.Ren := ⟨fun | 243 => 115 | 246 => 144 | 283 => 159 | 284 => 160 | 285 => 161 | 286 => 162 | 129 => 135 | 317 => 173 | 318 => 174 | 319 => 175 | 320 => 176 | 337 => 180 | 338 => 181 | n => n, fun | 3 => 3 | 9 => 9 | 2 => 2 | 4 => 4 | 171 => 233 | 0 => 0 | 53 => 145 | 37 => 185 | 5 => 5 | 173 => 235 | 212 => 250 | 51 => 210 | 20 => 20 | 213 => 251 | 46 => 160 | 232 => 260 | 233 => 261 | n => n, fun | 17 => 1 | 18 => 2 | 19 => 3 | n => n⟩
def Tryz.lays243_ren : Go.Shelf.Ren := ⟨fun | 243 => 115 | 246 => 144 | 283 => 159 | 284 => 160 | 285 => 161 | 286 => 162 | 129 => 135 | 317 => 173 | 318 => 174 | 319 => 175 | 320 => 176 | 337 => 180 | 338 => 181 | n => n, fun | 3 => 3 | 9 => 9 | 2 => 2 | 4 => 4 | 171 => 233 | 0 => 0 | 53 => 145 | 37 => 185 | 5 => 5 | 173 => 235 | 212 => 250 | 51 => 210 | 20 => 20 | 213 => 251 | 46 => 160 | 232 => 260 | 233 => 261 | n => n, fun | 17 => 1 | 18 => 2 | 19 => 3 | n => n⟩
def Tryz.laysM171_ren : Go.Shelf.Ren := ⟨fun | 171 => 92 | 243 => 115 | 246 => 144 | 283 => 159 | 284 => 160 | 285 => 161 | 286 => 162 | 129 => 135 | 317 => 173 | 318 => 174 | 319 => 175 | 320 => 176 | 337 => 180 | 338 => 181 | n => n, fun | 3 => 3 | 9 => 9 | 2 => 2 | 4 => 4 | 171 => 233 | 0 => 0 | 53 => 145 | 37 => 185 | 5 => 5 | 173 => 235 | 212 => 250 | 51 => 210 | 20 => 20 | 213 => 251 | 46 => 160 | 232 => 260 | 233 => 261 | n => n, fun | 17 => 1 | 18 => 2 | 19 => 3 | n => n⟩
theorem Tryz.laysM171 : Go.Proofs.LaysM.n171 Tryz.prog Tryz.laysM171_ren := {
 mixed := by kernel_rfl
 f129 := Tryz.func135.trans (congrArg some (by kernel_rfl))
 f171 := Tryz.func92.trans (congrArg some (by kernel_rfl))
 f243 := Tryz.func115.trans (congrArg some (by kernel_rfl))
 f246 := Tryz.func144.trans (congrArg some (by kernel_rfl))
 f283 := Tryz.func159.trans (congrArg some (by kernel_rfl))
 f284 := Tryz.func160.trans (congrArg some (by kernel_rfl))
 f285 := Tryz.func161.trans (congrArg some (by kernel_rfl))
 f286 := Tryz.func162.trans (congrArg some (by kernel_rfl))
 f317 := Tryz.func173.trans (congrArg some (by kernel_rfl))
 f318 := Tryz.func174.trans (congrArg some (by kernel_rfl))
 f319 := Tryz.func175.trans (congrArg some (by kernel_rfl))
 f320 := Tryz.func176.trans (congrArg some (by kernel_rfl))
 f337 := Tryz.func180.trans (congrArg some (by kernel_rfl))
 f338 := Tryz.func181.trans (congrArg some (by kernel_rfl))
 t0 := Tryz.underlying0
 a0 := Tryz.isAgg0
 z0 := Tryz.sizeOf0
 v0 := Tryz.zeroValue0
 t2 := Tryz.underlying2
 a2 := Tryz.isAgg2
 z2 := Tryz.sizeOf2
 v2 := Tryz.zeroValue2
 t3 := Tryz.underlying3
 a3 := Tryz.isAgg3
 z3 := Tryz.sizeOf3
 v3 := Tryz.zeroValue3
 t4 := Tryz.underlying4
 a4 := Tryz.isAgg4
 z4 := Tryz.sizeOf4
 v4 := Tryz.zeroValue4
 t5 := Tryz.underlying5
 a5 := Tryz.isAgg5
 z5 := Tryz.sizeOf5
 v5 := Tryz.zeroValue5
 t9 := Tryz.underlying9
 a9 := Tryz.isAgg9
 z9 := Tryz.sizeOf9
 v9 := Tryz.zeroValue9
 t20 := Tryz.underlying20
 a20 := Tryz.isAgg20
 z20 := Tryz.sizeOf20
 v20 := Tryz.zeroValue20
 t37 := Tryz.underlying185
 a37 := Tryz.isAgg185
 z37 := Tryz.sizeOf185
 v37 := Tryz.zeroValue185
 t46 := Tryz.underlying160
 a46 := Tryz.isAgg160
 z46 := Tryz.sizeOf160
 v46 := Tryz.zeroValue160
 t51 := Tryz.underlying210
 a51 := Tryz.isAgg210
 z51 := Tryz.sizeOf210
 v51 := Tryz.zeroValue210
 t53 := Tryz.underlying145
 a53 := Tryz.isAgg145
 z53 := Tryz.sizeOf145
 v53 := Tryz.zeroValue145
 t171 := Tryz.underlying233
 a171 := Tryz.isAgg233
 z171 := Tryz.sizeOf233
 v171 := Tryz.zeroValue233
 t173 := Tryz.underlying235
 a173 := Tryz.isAgg235
 z173 := Tryz.sizeOf235
 v173 := Tryz.zeroValue235
 t212 := Tryz.underlying250
 a212 := Tryz.isAgg250
 z212 := Tryz.sizeOf250
 v212 := Tryz.zeroValue250
 t213 := Tryz.underlying251
 a213 := Tryz.isAgg251
 z213 := Tryz.sizeOf251
 t232 := Tryz.underlying260
 a232 := Tryz.isAgg260
 z232 := Tryz.sizeOf260
 v232 := Tryz.zeroValue260
 t233 := Tryz.underlying261
 a233 := Tryz.isAgg261
 z233 := Tryz.sizeOf261
 v233 := Tryz.zeroValue261
 g17 := by kernel_rfl
 g18 := by kernel_rfl
 g19 := by kernel_rfl
 i0 := by kernel_rfl
 i2 := by kernel_rfl
 i3 := by kernel_rfl
 i4 := by kernel_rfl
 i5 := by kernel_rfl
 i9 := by kernel_rfl
 i20 := by kernel_rfl
 i37 := by kernel_rfl
 i46 := by kernel_rfl
 i51 := by kernel_rfl
 i53 := by kernel_rfl
 i171 := by kernel_rfl
 i173 := by kernel_rfl
 i212 := by kernel_rfl
 i232 := by kernel_rfl
 i233 := by kernel_rfl
 m17 := by kernel_rfl
 m18 := by kernel_rfl
 m19 := by kernel_rfl }
open Go.RowKit Go.Sort Go.Lib in
theorem Tryz.strconv_Itoa (n : Int) (h0 : -9223372036854775808 ≤ n) (h1 : n ≤ 9223372036854775807) (w : World) (htab : Lib.TabIs Tryz.prog w "internal/strconv.uint64pow10" .u64 Lib.pow10Tab) :
  Calls Tryz.prog 92 #[.int .i64 n] w fun e w' => e = .returned (.string ⟨(Lib.itoa n).toArray⟩) ∧ ∃ k os, w' = grow (w.drewN k) os := Any.strconv_Itoa Tryz.laysM171 n h0 h1 w htab
def Tryz.lays171_ren : Go.Shelf.Ren := ⟨fun | 171 => 92 | 243 => 115 | 246 => 144 | 283 => 159 | 284 => 160 | 285 => 161 | 286 => 162 | 129 => 135 | 317 => 173 | 318 => 174 | 319 => 175 | 320 => 176 | 337 => 180 | 338 => 181 | n => n, fun | 3 => 3 | 9 => 9 | 2 => 2 | 4 => 4 | 171 => 233 | 0 => 0 | 53 => 145 | 37 => 185 | 5 => 5 | 173 => 235 | 212 => 250 | 51 => 210 | 20 => 20 | 213 => 251 | 46 => 160 | 232 => 260 | 233 => 261 | n => n, fun | 17 => 1 | 18 => 2 | 19 => 3 | n => n⟩
def Tryz.lays206_ren : Go.Shelf.Ren := ⟨fun | 206 => 145 | n => n, fun | 9 => 9 | 4 => 4 | 3 => 3 | n => n, fun | n => n⟩
def Tryz.lays99_ren : Go.Shelf.Ren := ⟨fun | 99 => 116 | 206 => 145 | n => n, fun | 9 => 9 | 4 => 4 | 3 => 3 | n => n, fun | n => n⟩
theorem Tryz.lays99 : Go.Proofs.Lays.n99 Tryz.prog Tryz.lays99_ren := {
 mixed := by kernel_rfl
 f99 := Tryz.func116.trans (congrArg some (by kernel_rfl))
 f206 := Tryz.func145.trans (congrArg some (by kernel_rfl))
 t3 := Tryz.underlying3
 a3 := Tryz.isAgg3
 z3 := Tryz.sizeOf3
 v3 := Tryz.zeroValue3
 t4 := Tryz.underlying4
 a4 := Tryz.isAgg4
 z4 := Tryz.sizeOf4
 v4 := Tryz.zeroValue4
 t9 := Tryz.underlying9
 a9 := Tryz.isAgg9
 z9 := Tryz.sizeOf9
 v9 := Tryz.zeroValue9 }
open Go.RowKit Go.Lib in
theorem Tryz.strings_HasPrefix (s p : ByteArray) (w : World) :
  Calls Tryz.prog 116 #[.string s, .string p] w fun e w' => e = .returned (.bool (Lib.hasPrefix s.data.toList p.data.toList)) ∧ w' = w := Any.strings_HasPrefix Tryz.lays99 s p w
def Tryz.lays264_ren : Go.Shelf.Ren := ⟨fun | 264 => 165 | n => n, fun | 53 => 145 | 46 => 160 | n => n, fun | n => n⟩
def Tryz.lays212_ren : Go.Shelf.Ren := ⟨fun | 212 => 141 | 263 => 164 | 264 => 165 | n => n, fun | 46 => 160 | 51 => 210 | 146 => 239 | 53 => 145 | 148 => 241 | n => n, fun | n => n⟩
def Tryz.lays105_ren : Go.Shelf.Ren := ⟨fun | 105 => 112 | 212 => 141 | 99 => 116 | 165 => 142 | 166 => 111 | 170 => 143 | 169 => 113 | 263 => 164 | 264 => 165 | 206 => 145 | 240 => 140 | 241 => 166 | 276 => 163 | 277 => 177 | n => n, fun | 9 => 9 | 3 => 3 | 4 => 4 | 20 => 20 | 0 => 0 | 46 => 160 | 109 => 214 | 5 => 5 | 72 => 187 | 76 => 194 | 51 => 210 | 146 => 239 | 53 => 145 | 148 => 241 | 70 => 184 | 37 => 185 | 75 => 193 | 127 => 218 | 164 => 237 | 80 => 159 | n => n, fun | n => n⟩
theorem Tryz.lays105 : Go.Proofs.Lays.n105 Tryz.prog Tryz.lays105_ren := {
 mixed := by kernel_rfl
 f99 := Tryz.func116.trans (congrArg some (by kernel_rfl))
 f105 := Tryz.func112.trans (congrArg some (by kernel_rfl))
 f165 := Tryz.func142.trans (congrArg some (by kernel_rfl))
 f166 := Tryz.func111.trans (congrArg some (by kernel_rfl))
 f169 := Tryz.func113.trans (congrArg some (by kernel_rfl))
 f170 := Tryz.func143.trans (congrArg some (by kernel_rfl))
 f206 := Tryz.func145.trans (congrArg some (by kernel_rfl))
 f212 := Tryz.func141.trans (congrArg some (by kernel_rfl))
 f240 := Tryz.func140.trans (congrArg some (by kernel_rfl))
 f241 := Tryz.func166.trans (congrArg some (by kernel_rfl))
 f263 := Tryz.func164.trans (congrArg some (by kernel_rfl))
 f264 := Tryz.func165.trans (congrArg some (by kernel_rfl))
 f276 := Tryz.func163.trans (congrArg some (by kernel_rfl))
 f277 := Tryz.func177.trans (congrArg some (by kernel_rfl))
 t0 := Tryz.underlying0
 a0 := Tryz.isAgg0
 z0 := Tryz.sizeOf0
 v0 := Tryz.zeroValue0
 t3 := Tryz.underlying3
 a3 := Tryz.isAgg3
 z3 := Tryz.sizeOf3
 v3 := Tryz.zeroValue3
 t4 := Tryz.underlying4
 a4 := Tryz.isAgg4
 z4 := Tryz.sizeOf4
 v4 := Tryz.zeroValue4
 t5 := Tryz.underlying5
 a5 := Tryz.isAgg5
 z5 := Tryz.sizeOf5
 v5 := Tryz.zeroValue5
 t9 := Tryz.underlying9
 a9 := Tryz.isAgg9
 z9 := Tryz.sizeOf9
 v9 := Tryz.zeroValue9
 t20 := Tryz.underlying20
 a20 := Tryz.isAgg20
 z20 := Tryz.sizeOf20
 v20 := Tryz.zeroValue20
 t37 := Tryz.underlying185
 a37 := Tryz.isAgg185
 z37 := Tryz.sizeOf185
 v37 := Tryz.zeroValue185
 t46 := Tryz.underlying160
 a46 := Tryz.isAgg160
 z46 := Tryz.sizeOf160
 v46 := Tryz.zeroValue160
 t51 := Tryz.underlying210
 a51 := Tryz.isAgg210
 z51 := Tryz.sizeOf210
 v51 := Tryz.zeroValue210
 t53 := Tryz.underlying145
 a53 := Tryz.isAgg145
 z53 := Tryz.sizeOf145
 v53 := Tryz.zeroValue145
 t70 := Tryz.underlying184
 a70 := Tryz.isAgg184
 z70 := Tryz.sizeOf184
 v70 := Tryz.zeroValue184
 t72 := Tryz.underlying187
 a72 := Tryz.isAgg187
 z72 := Tryz.sizeOf187
 v72 := Tryz.zeroValue187
 t75 := Tryz.underlying193
 a75 := Tryz.isAgg193
 z75 := Tryz.sizeOf193
 v75 := Tryz.zeroValue193
 t76 := Tryz.underlying194
 a76 := Tryz.isAgg194
 z76 := Tryz.sizeOf194
 v76 := Tryz.zeroValue194
 t109 := Tryz.underlying214
 a109 := Tryz.isAgg214
 z109 := Tryz.sizeOf214
 v109 := Tryz.zeroValue214
 t127 := Tryz.underlying218
 a127 := Tryz.isAgg218
 z127 := Tryz.sizeOf218
 v127 := Tryz.zeroValue218
 t146 := Tryz.underlying239
 a146 := Tryz.isAgg239
 z146 := Tryz.sizeOf239
 v146 := Tryz.zeroValue239
 t148 := Tryz.underlying241
 a148 := Tryz.isAgg241
 z148 := Tryz.sizeOf241
 v148 := Tryz.zeroValue241
 t164 := Tryz.underlying237
 a164 := Tryz.isAgg237
 z164 := Tryz.sizeOf237
 v164 := Tryz.zeroValue237 }
theorem Tryz.Builder_Extra_105 : Builder.Extra Tryz.prog Tryz.lays105_ren := {
 sizeBuilder := by kernel_rfl
 liesBuilder := by kernel_rfl
 t5 := Tryz.underlying5
 a5 := Tryz.isAgg5
 z5 := Tryz.sizeOf5
 v5 := Tryz.zeroValue5
 infoByte := by kernel_rfl
 cellsByte := by kernel_rfl
 sizeByte := by kernel_rfl
 neB5 := by decide }
open Go.RowKit Go.Lib in
theorem Tryz.strings_Repeat (s : ByteArray) (c : Nat) (w : World) (hc : c ≤ 9223372036854775807) (hlen : s.size * c ≤ 140737488355328) :
  Calls Tryz.prog 112 #[.string s, .int .i64 c] w fun e w' => e = .returned (.string ⟨(Lib.repeatL s.data.toList c).toArray⟩) ∧ Below w.heap.size w w' := Any.strings_Repeat Tryz.lays105 Tryz.Builder_Extra_105 s c w hc hlen
def Tryz.laysSlF20_f126_ren : Go.Shelf.Ren := ⟨fun | 20 => 126 | n => n, fun | 24 => 3 | 22 => 83 | 3 => 3 | 25 => 106 | 4 => 4 | 0 => 0 | n => n, fun | n => n⟩
def Tryz.laysSlF24_f130_ren : Go.Shelf.Ren := ⟨fun | 24 => 130 | n => n, fun | 24 => 3 | 22 => 83 | 3 => 3 | 25 => 106 | 4 => 4 | 0 => 0 | n => n, fun | n => n⟩
end Go.Proofs
