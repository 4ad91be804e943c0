/- Part 6 of 22 of the proof of the law: contracts of the functions that it reaches, and plain facts. Conditions: those that each contract names. -/
import Derived.Test.YtkamepalomkpbaaDoorWChkB05
import Derived.Deep.RegionHeld3
namespace Go.Proofs.YtkamepalomkpbaaDoor
open Go.RowKit
def I64 (n : Int) : Prop := -9223372036854775808 ≤ n ∧ n ≤ 9223372036854775807
def sgnI (z : Int) : Int := if z < 0 then -1 else if z = 0 then 0 else 1
def TwoBox (w : World) (a b c d : Int) (w' : World) : Prop :=
  w'.cell? ⟨w.heap.size, 0, none⟩ = some (.int .i64 a) ∧ w'.cell? ⟨w.heap.size, 1, none⟩ = some (.int .i64 b) ∧
  w'.cell? ⟨w.heap.size + 1, 0, none⟩ = some (.int .i64 c) ∧ w'.cell? ⟨w.heap.size + 1, 1, none⟩ = some (.int .i64 d) ∧ w.heap.size + 2 ≤ w'.heap.size ∧ Below w.heap.size w w'
end Go.Proofs.YtkamepalomkpbaaDoor
namespace Go.Proofs.YtkamepalomkpbaaDoor
section
open Go.RowKit
def lowN (n d : Int) : Int := n.tdiv (Nat.gcd n.natAbs d.natAbs : Int)
def lowD (n d : Int) : Int := d.tdiv (Nat.gcd n.natAbs d.natAbs : Int)
end
end Go.Proofs.YtkamepalomkpbaaDoor
