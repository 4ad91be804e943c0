/- Opening an argument that is a slice of slices of ints. Conditions: those that the lemma names. -/
import Derived.Test.YtkamepalomkpbaaGreatDoorWishArgs
import Derived.Test.YtkamepalomkpbaaGreatDoorWishPlan
import Derived.Deep.Matrix
namespace Go.Proofs.YtkamepalomkpbaaGreatDoor
open Go.ChangeShapes Go.WideShapes Go.ChangeAt Go.WideMaps Go.WideElems Go.RowKit Go.Joins Go.Deep

set_option maxRecDepth 100000 in
theorem open_gg {H : Type} {enc : TypeId × Value → H} {w : World} {base' : Nat} {v : Value} {d : DataW H} {p : List MemPlace}
    (hv : Value.okWide Tryz.prog w .any base' 61 v) (h : DataW.Trod enc Tryz.prog w 0 (fun _ => true) true 61 v d p) :
    ∃ (LA : Option Addr) (ln lc : Nat) (gs : List (List Int)), v = .slice LA ln lc ∧ ln ≤ lc ∧ lc ≤ maxLen ∧ gs.length = ln ∧ GRd w w.heap.size LA gs := by
  obtain ⟨a0, len, cap, rfl⟩ := okWide_slice Tryz.underlying61 hv
  obtain ⟨fuel, hf⟩ := h
  rcases open_int_rows Tryz.underlying61 Tryz.underlying25 Tryz.underlying3 (by kernel_rfl) (by kernel_rfl) hf with ⟨hcs, hx⟩ | ⟨a, len', cap', AA, LL, C, Z, hcs, _, hl, hm, hx, hcell⟩
  · simp [Value.cells] at hcs
    obtain ⟨rfl, rfl, rfl⟩ := hcs
    exact ⟨none, 0, 0, [], rfl, Nat.le_refl _, by decide, rfl, fun h => absurd h (by simp)⟩
  · simp [Value.cells] at hcs
    obtain ⟨rfl, rfl, rfl⟩ := hcs
    refine ⟨some a, len, cap, (List.range len).map fun r => (Z r).take (LL r), rfl, hl, hm, by simp, fun hpos => ?_⟩
    have hpos' : 0 < len := by simpa using hpos
    obtain ⟨b, off, sp⟩ := a
    have hc0 := (hcell 0 (by omega)).1
    have hsp : sp = none := by simpa [Addr.add] using World.cell?_spot hc0
    subst hsp
    refine ⟨b, off, rfl, ?_, fun i hi => ?_⟩
    · have := World.block_lt_of_cell? w _ hc0
      simpa [Addr.add] using this
    · have hil : i < len := by simpa using hi
      obtain ⟨k0, k1, k2, k3, _, k5, k6⟩ := hcell i (by omega)
      rw [add_plain] at k0
      have e : ((List.range len).map fun r => (Z r).take (LL r))[i] = (Z i).take (LL i) := by simp
      rw [e]
      have el : ((Z i).take (LL i)).length = LL i := by rw [List.length_take]; omega
      rw [el]
      refine ⟨AA i, C i, k0, fun hp => ?_, k1, k2⟩
      rw [el] at hp
      cases ha : AA i with
      | none => have := k5 ha; omega
      | some a' =>
        obtain ⟨_, hc⟩ := k6 a' ha
        obtain ⟨b', off', sp'⟩ := a'
        have hc1 := hc 0 (by omega)
        have hsp' : sp' = none := by simpa [Addr.add] using World.cell?_spot hc1
        subst hsp'
        refine ⟨b', off', rfl, ?_, fun j hj => ?_⟩
        · have := World.block_lt_of_cell? w _ hc1
          simpa [Addr.add] using this
        · rw [el] at hj
          have k := hc j (by omega)
          rw [add_plain] at k
          rw [k, List.getElem_take]
          simp [List.getD, List.getElem?_eq_getElem (show j < (Z i).length by omega)]
end Go.Proofs.YtkamepalomkpbaaGreatDoor
