/- Part 11 of 33 of the proof of the law: contracts of the functions that it reaches, and plain facts. Conditions: those that each contract names. -/
import Derived.Shelf.LaysM
import Derived.Shelf.SlGeneric
import Derived.Shelf.SlSortCmp.WholeK
import Derived.Shelf.SlSortCmp.NoneTotal
import Derived.Ground.SlsfProg
import Derived.Test.YtaegjpancbmppaaGreatDoorProg
set_option linter.unusedVariables false
set_option linter.unusedSimpArgs false
namespace Go.Proofs
open Go.Shelf
def Tryz.sortF_ren : Go.Shelf.Ren := ⟨fun | 6 => 66 | 15 => 84 | 14 => 83 | 28 => 108 | 29 => 109 | 20 => 100 | 21 => 101 | 22 => 102 | 23 => 103 | 24 => 104 | 25 => 105 | 26 => 106 | 27 => 107 | 46 => 118 | 47 => 119 | 48 => 120 | 49 => 121 | 50 => 122 | 57 => 134 | n => n, fun | 22 => 78 | 24 => 86 | 25 => 112 | 3 => 3 | 39 => 34 | 0 => 0 | 53 => 160 | 55 => 72 | 4 => 4 | 46 => 154 | 45 => 153 | 50 => 88 | 5 => 5 | 9 => 9 | 66 => 165 | 70 => 169 | 76 => 179 | 77 => 180 | n => n, fun | n => n⟩
theorem Tryz.sortF : Go.Proofs.SlLaysF0.n6 Tryz.prog Tryz.sortF_ren := {
 mixed := by kernel_rfl
 f6 := ⟨Tryz.f66.name, by decide, Tryz.func66.trans (congrArg some (by kernel_rfl))⟩
 f14 := ⟨Tryz.f83.name, by decide, Tryz.func83.trans (congrArg some (by kernel_rfl))⟩
 f15 := Tryz.func84.trans (congrArg some (by kernel_rfl))
 f20 := ⟨Tryz.f100.name, by decide, Tryz.func100.trans (congrArg some (by kernel_rfl))⟩
 f21 := ⟨Tryz.f101.name, by decide, Tryz.func101.trans (congrArg some (by kernel_rfl))⟩
 f22 := ⟨Tryz.f102.name, by decide, Tryz.func102.trans (congrArg some (by kernel_rfl))⟩
 f23 := ⟨Tryz.f103.name, by decide, Tryz.func103.trans (congrArg some (by kernel_rfl))⟩
 f24 := ⟨Tryz.f104.name, by decide, Tryz.func104.trans (congrArg some (by kernel_rfl))⟩
 f25 := ⟨Tryz.f105.name, by decide, Tryz.func105.trans (congrArg some (by kernel_rfl))⟩
 f26 := ⟨Tryz.f106.name, by decide, Tryz.func106.trans (congrArg some (by kernel_rfl))⟩
 f27 := ⟨Tryz.f107.name, by decide, Tryz.func107.trans (congrArg some (by kernel_rfl))⟩
 f28 := Tryz.func108.trans (congrArg some (by kernel_rfl))
 f29 := Tryz.func109.trans (congrArg some (by kernel_rfl))
 f46 := ⟨Tryz.f118.name, by decide, Tryz.func118.trans (congrArg some (by kernel_rfl))⟩
 f47 := Tryz.func119.trans (congrArg some (by kernel_rfl))
 f48 := Tryz.func120.trans (congrArg some (by kernel_rfl))
 f49 := ⟨Tryz.f121.name, by decide, Tryz.func121.trans (congrArg some (by kernel_rfl))⟩
 f50 := ⟨Tryz.f122.name, by decide, Tryz.func122.trans (congrArg some (by kernel_rfl))⟩
 f57 := ⟨Tryz.f134.name, by decide, Tryz.func134.trans (congrArg some (by kernel_rfl))⟩
 t0 := Tryz.underlying0
 a0 := Tryz.isAgg0
 z0 := Tryz.sizeOf0
 v0 := Tryz.zeroValue0
 t3 := Tryz.underlying3
 a3 := Tryz.isAgg3
 z3 := Tryz.sizeOf3
 v3 := Tryz.zeroValue3
 t4 := Tryz.underlying4
 a4 := Tryz.isAgg4
 z4 := Tryz.sizeOf4
 v4 := Tryz.zeroValue4
 t5 := Tryz.underlying5
 a5 := Tryz.isAgg5
 z5 := Tryz.sizeOf5
 v5 := Tryz.zeroValue5
 t9 := Tryz.underlying9
 a9 := Tryz.isAgg9
 z9 := Tryz.sizeOf9
 v9 := Tryz.zeroValue9
 t22 := Tryz.underlying78
 a22 := Tryz.isAgg78
 z22 := Tryz.sizeOf78
 v22 := Tryz.zeroValue78
 t25 := Tryz.underlying112
 a25 := Tryz.isAgg112
 z25 := Tryz.sizeOf112
 v25 := Tryz.zeroValue112
 t39 := Tryz.underlying34
 a39 := Tryz.isAgg34
 z39 := Tryz.sizeOf34
 v39 := Tryz.zeroValue34
 t45 := Tryz.underlying153
 a45 := Tryz.isAgg153
 z45 := Tryz.sizeOf153
 v45 := Tryz.zeroValue153
 t46 := Tryz.underlying154
 a46 := Tryz.isAgg154
 z46 := Tryz.sizeOf154
 v46 := Tryz.zeroValue154
 t50 := Tryz.underlying88
 a50 := Tryz.isAgg88
 z50 := Tryz.sizeOf88
 v50 := Tryz.zeroValue88
 t53 := Tryz.underlying160
 a53 := Tryz.isAgg160
 z53 := Tryz.sizeOf160
 v53 := Tryz.zeroValue160
 t55 := Tryz.underlying72
 a55 := Tryz.isAgg72
 z55 := Tryz.sizeOf72
 v55 := Tryz.zeroValue72
 t66 := Tryz.underlying165
 a66 := Tryz.isAgg165
 z66 := Tryz.sizeOf165
 v66 := Tryz.zeroValue165
 t70 := Tryz.underlying169
 a70 := Tryz.isAgg169
 z70 := Tryz.sizeOf169
 v70 := Tryz.zeroValue169
 t76 := Tryz.underlying179
 a76 := Tryz.isAgg179
 z76 := Tryz.sizeOf179
 v76 := Tryz.zeroValue179
 t77 := Tryz.underlying180
 a77 := Tryz.isAgg180
 z77 := Tryz.sizeOf180
 v77 := Tryz.zeroValue180 }
end Go.Proofs
