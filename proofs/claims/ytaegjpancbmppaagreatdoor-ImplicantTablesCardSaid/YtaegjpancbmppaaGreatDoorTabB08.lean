/- Part 8 of 33 of the proof of the law: contracts of the functions that it reaches, and plain facts. Conditions: those that each contract names. -/
import Derived.Test.YtaegjpancbmppaaGreatDoorTabB04
import Derived.Test.YtaegjpancbmppaaGreatDoorTabB07
import Derived.Test.YtaegjpancbmppaaGreatDoorTabB03
set_option linter.unusedVariables false
set_option linter.unusedSimpArgs false
namespace Go.Proofs.YtaegjpancbmppaaGreatDoor
open Go.ChangeShapes Go.WideShapes Go.ChangeAt Go.WideMaps Go.WideElems Go.RowKit Go.Joins
set_option linter.unusedVariables false
theorem add_plain (b off n : Nat) : (Addr.mk b off none).add n = ⟨b, off + n, none⟩ := by
 unfold Addr.add
 split
 ·subst_vars; rfl
 ·rfl
end Go.Proofs.YtaegjpancbmppaaGreatDoor
namespace Go.Proofs.YtaegjpancbmppaaGreatDoor
open Go.ChangeShapes Go.WideShapes Go.ChangeAt Go.WideMaps Go.WideElems Go.RowKit Go.Joins
set_option linter.unusedVariables false
theorem u8_rng {a : Int} (h : (Lit.int .u8 a).wf = true) : 0 ≤ a ∧ a ≤ 255 := by
 have h1 : IntKind.u8.min ≤ a ∧ a ≤ IntKind.u8.max := by simpa [Lit.wf] using h
 have e1 : IntKind.u8.min = 0 := by decide
 have e2 : IntKind.u8.max = 255 := by decide
 omega
set_option maxRecDepth 100000 in
theorem open_bytes {H : Type} {enc : TypeId × Value → H} {w : World} {base' : Nat} {sp : Nat → Bool} {held : Bool} {v : Value} {d : DataW H} {p : List MemPlace}
  (hv : Value.okWide Tryz.prog w .any base' 62 v) (h : DataW.Trod enc Tryz.prog w 0 sp held 62 v d p) :
  ∃ (A : Option Addr) (len cap : Nat) (L : List Nat), v = .slice A len cap ∧ len = L.length ∧ Rd u8v w w.heap.size A L ∧ ∀ x ∈ L, x < 256 := by
 obtain ⟨a0, ln0, cp0, rfl⟩ := okWide_slice Tryz.underlying62 hv
 obtain ⟨fuel, hf⟩ := h
 rcases open_ints Tryz.underlying62 Tryz.underlying5 (by kernel_rfl) hf with ⟨hcs, hx⟩ | ⟨a, len, cap, zs, hcs, _, hl, hm, hz, hx, hcell, hwz⟩
 ·simp [Value.cells] at hcs
  obtain ⟨rfl, rfl, rfl⟩ := hcs
  exact ⟨none, 0, 0, [], rfl, rfl, fun h => absurd h (by simp), fun _ h => absurd h List.not_mem_nil⟩
 ·simp [Value.cells] at hcs
  obtain ⟨e1, e2, e3⟩ := hcs
  rw [e1, e2, e3]
  have hzl : len ≤ zs.length := by rw [hz]; split <;> omega
  have hlen : ((zs.take len).map Int.toNat).length = len := by rw [List.length_map, List.length_take]; omega
  refine ⟨some a, len, cap, (zs.take len).map Int.toNat, rfl, hlen.symm, fun hpos => ?_, fun x hx => ?_⟩
  ·rw [hlen] at hpos
   obtain ⟨b, off, sp⟩ := a
   have hc0 := hcell 0 (by omega)
   have hsp : sp = none := by simpa [Addr.add] using World.cell?_spot hc0
   subst hsp
   refine ⟨b, off, rfl, ?_, fun i hi => ?_⟩
   ·have := World.block_lt_of_cell? w _ hc0
    simpa [Addr.add] using this
   ·rw [hlen] at hi
    have k := hcell i (by omega)
    rw [add_plain] at k
    have hw := u8_rng (hwz (zs[i]'(by omega)) (List.getElem_mem _))
    rw [k, List.getElem_map, List.getElem_take]
    have e : zs.getD i 0 = zs[i]'(by omega) := by simp [List.getD, List.getElem?_eq_getElem (show i < zs.length by omega)]
    rw [e]
    show some (Value.int .u8 _) = some (Value.int .u8 _)
    rw [Int.toNat_of_nonneg hw.1]
  ·obtain ⟨z, hz2, rfl⟩ := List.mem_map.1 hx
   have hw := u8_rng (hwz z ((List.take_sublist len zs).subset hz2))
   omega
end Go.Proofs.YtaegjpancbmppaaGreatDoor
