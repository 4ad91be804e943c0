/- Part 44 of 46 of the proof of the law: contracts of the functions that it reaches, and plain facts. Conditions: those that each contract names. -/
import Derived.Shelf.LaysM
import Derived.Shelf.SlGeneric
import Derived.Shelf.SlSortCmp.Whole1
import Derived.Ground.SlsfProg
import Derived.Test.YtendjepcjmfmfaaGreatDoorProg
namespace Go.Proofs
open Go.Shelf
def Tryz.sortZ_ren : Go.Shelf.Ren := ⟨fun | 6 => 71 | 15 => 104 | 14 => 103 | 28 => 134 | 29 => 135 | 20 => 126 | 21 => 127 | 22 => 128 | 23 => 129 | 24 => 130 | 25 => 131 | 26 => 132 | 27 => 133 | 46 => 151 | 47 => 152 | 48 => 153 | 49 => 154 | 50 => 155 | 57 => 172 | n => n, fun | 22 => 83 | 24 => 3 | 25 => 106 | 3 => 3 | 39 => 160 | 0 => 0 | 53 => 210 | 55 => 145 | 4 => 4 | 46 => 204 | 45 => 203 | 50 => 164 | 5 => 5 | 9 => 9 | 66 => 226 | 70 => 230 | 76 => 247 | 77 => 172 | n => n, fun | n => n⟩
end Go.Proofs
