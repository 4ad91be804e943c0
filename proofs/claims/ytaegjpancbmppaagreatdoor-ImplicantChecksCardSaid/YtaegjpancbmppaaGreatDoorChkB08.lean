/- Part 8 of 26 of the proof of the law: contracts of the functions that it reaches, and plain facts. Conditions: those that each contract names. -/
import Derived.Test.YtaegjpancbmppaaGreatDoorChkB04
import Derived.Test.YtaegjpancbmppaaGreatDoorChkB07
namespace Go.Proofs.YtaegjpancbmppaaGreatDoor
open Go.ChangeShapes Go.WideShapes Go.ChangeAt Go.WideMaps Go.WideElems Go.RowKit Go.Joins
set_option linter.unusedVariables false
theorem add_plain (b off n : Nat) : (Addr.mk b off none).add n = ⟨b, off + n, none⟩ := by
 unfold Addr.add
 split
 ·subst_vars; rfl
 ·rfl
theorem rows_open {H : Type} {enc : TypeId × Value → H} {w : World} {sp : Nat → Bool} {held : Bool} {n : Nat} {v : Value} {x : DataW H × List MemPlace}
  (h : DataW.trod enc Tryz.prog w 0 sp held n 24 [v] = some x) :
  ∃ (A : Option Addr) (len cap : Nat) (L : List Int), v = .slice A len cap ∧ len ≤ cap ∧ cap ≤ maxLen ∧ len = L.length ∧ Rd iz w w.heap.size A L := by
 rcases open_ints Tryz.underlying24 Tryz.underlying3 (by kernel_rfl) h with ⟨hcs, hx⟩ | ⟨a, len, cap, zs, hcs, _, hl, hm, hz, hx, hcell, hwz⟩
 ·simp at hcs
  subst hcs
  exact ⟨none, 0, 0, [], rfl, Nat.le_refl _, by decide, rfl, fun h => absurd h (by simp)⟩
 ·simp at hcs
  subst hcs
  have hzl : len ≤ zs.length := by rw [hz]; split <;> omega
  refine ⟨some a, len, cap, zs.take len, rfl, hl, hm, by rw [List.length_take]; omega, fun hpos => ?_⟩
  rw [List.length_take] at hpos
  obtain ⟨b, off, sp⟩ := a
  have hc0 := hcell 0 (by omega)
  have hsp : sp = none := by simpa [Addr.add] using World.cell?_spot hc0
  subst hsp
  refine ⟨b, off, rfl, ?_, fun i hi => ?_⟩
  ·have := World.block_lt_of_cell? w _ hc0
   simpa [Addr.add] using this
  ·rw [List.length_take] at hi
   have k := hcell i (by omega)
   rw [add_plain] at k
   rw [k, List.getElem_take]
   simp [List.getD, List.getElem?_eq_getElem (show i < zs.length by omega)]
theorem array3T {α : Type} {a : Array α} (h : a.size = 3) : ∃ x y z, a = #[x, y, z] := by
 match a, h with
 | ⟨[x, y, z]⟩, _ => exact ⟨x, y, z, rfl⟩
set_option maxRecDepth 100000 in
theorem open_table {H : Type} {enc : TypeId × Value → H} {w : World} {base' : Nat} {v : Value} {d : DataW H} {p : List MemPlace}
  (hv : Value.okWide Tryz.prog w .any base' 26 v) (h : DataW.Trod enc Tryz.prog w 0 (fun _ => true) true 26 v d p) :
  ∃ (z : Int) (A B : Option Addr) (c d n m : Nat) (L K : List Int), v = .agg #[.int .i64 z, .slice A n c, .slice B m d] ∧ n = L.length ∧ m = K.length ∧ Rd iz w w.heap.size A L ∧ Rd iz w w.heap.size B K := by
 obtain ⟨cs, rfl, hsz⟩ := okWide_struct Tryz.underlying26 hv
 have h3 : cs.size = 3 := hsz.trans (by kernel_rfl)
 obtain ⟨c0, c1, c2, rfl⟩ := array3T h3
 obtain ⟨fuel, hf⟩ := h
 obtain ⟨y0, y1, y2, n, _, _, h0, h1, h2⟩ := Deep.trod_struct3 Tryz.underlying26 hf
 have e1 : Tryz.prog.cellsOf 3 = 1 := by kernel_rfl
 have e2 : Tryz.prog.cellsOf 24 = 1 := by kernel_rfl
 rw [e1] at h0
 rw [e2] at h1 h2
 simp [Value.cells] at h0 h1 h2
 obtain ⟨z, g0, _, _⟩ := DataW.trod_int Tryz.underlying3 h0
 simp at g0
 subst g0
 obtain ⟨A, n1, c1', L, rfl, -, -, k1, k2⟩ := rows_open h1
 obtain ⟨B, n2, c2', K, rfl, -, -, k3, k4⟩ := rows_open h2
 exact ⟨z, A, B, c1', c2', n1, n2, L, K, rfl, k1, k3, k2, k4⟩
end Go.Proofs.YtaegjpancbmppaaGreatDoor
