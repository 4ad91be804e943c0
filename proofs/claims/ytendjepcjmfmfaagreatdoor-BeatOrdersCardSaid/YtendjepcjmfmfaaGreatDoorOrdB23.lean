/- Part 23 of 47 of the proof of the law: contracts of the functions that it reaches, and plain facts. Conditions: those that each contract names. -/
import Derived.Test.YtendjepcjmfmfaaGreatDoorRows
import Derived.Test.YtendjepcjmfmfaaGreatDoorOrdB03
import Derived.Test.YtendjepcjmfmfaaGreatDoorOrdB01
import Derived.BigQuiet
import Derived.Test.YtendjepcjmfmfaaGreatDoorOrdB04
import Derived.Test.YtendjepcjmfmfaaGreatDoorOrdB02
import Derived.Lib.AtoiErrMem
import Derived.Lib.TrimByte
import Derived.Deep.AppendLies
import Derived.Deep.RegionLaw
import Derived.Lib.Hide
namespace Go.Proofs.YtendjepcjmfmfaaGreatDoor
section
open Go.RowKit
abbrev n64v : Nat → Value := fun x => .int .i64 (x : Int)
end
section
open Go.RowKit
end
section
open Go.RowKit
def RetGrp (p : Nat) (w : World) (e : Ending) (w' : World) : Prop :=
 ∃ A cap, e = .returned (.slice A (grps p).length cap) ∧ Rd n64v w' w'.heap.size A (grps p) ∧ (grps p).length ≤ cap ∧ Below w.heap.size w w'
def szOf : Value → Nat
 | .string b => b.size
 | _ => 0
end
end Go.Proofs.YtendjepcjmfmfaaGreatDoor
