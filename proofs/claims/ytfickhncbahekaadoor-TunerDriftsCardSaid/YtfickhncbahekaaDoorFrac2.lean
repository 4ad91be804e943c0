/- Package fraction: both, Compare and Make. Conditions: the parts are ints. -/
import Derived.Test.YtfickhncbahekaaDoorFrac
import Derived.Deep.RegionHeld3
namespace Go.Proofs.YtfickhncbahekaaDoor
open Go.RowKit

/-- The number is an int of 64 bits. -/
def I64 (n : Int) : Prop := -9223372036854775808 ≤ n ∧ n ≤ 9223372036854775807

/-- The sign of an int. -/
def sgnI (z : Int) : Int := if z < 0 then -1 else if z = 0 then 0 else 1
theorem sgnI_neg {z : Int} (h : z < 0) : sgnI z = -1 := if_pos h
theorem sgnI_pos {z : Int} (h : 0 < z) : sgnI z = 1 := by unfold sgnI; rw [if_neg (by omega), if_neg (by omega)]

/-- A world behind two boxed fractions. -/
def TwoBox (w : World) (a b c d : Int) (w' : World) : Prop :=
  w'.cell? ⟨w.heap.size, 0, none⟩ = some (.int .i64 a) ∧ w'.cell? ⟨w.heap.size, 1, none⟩ = some (.int .i64 b) ∧
  w'.cell? ⟨w.heap.size + 1, 0, none⟩ = some (.int .i64 c) ∧ w'.cell? ⟨w.heap.size + 1, 1, none⟩ = some (.int .i64 d) ∧ w.heap.size + 2 ≤ w'.heap.size ∧ Below w.heap.size w w'
theorem TwoBox.below {w w1 w2 : World} {a b c d : Int} (h : TwoBox w a b c d w1) (hb : Below w1.heap.size w1 w2) : TwoBox w a b c d w2 := by
  obtain ⟨h1, h2, h3, h4, h5, h6⟩ := h
  exact ⟨(hb.cell (by show w.heap.size < _; omega)).trans h1, (hb.cell (by show w.heap.size < _; omega)).trans h2, (hb.cell (by show w.heap.size + 1 < _; omega)).trans h3,
    (hb.cell (by show w.heap.size + 1 < _; omega)).trans h4, by have := hb.size; omega, h6.trans (hb.mono (by omega))⟩

theorem TwoBox.drew {w w1 : World} {a b c d : Int} (h : TwoBox w a b c d w1) : TwoBox w a b c d w1.drew := ⟨h.1, h.2.1, h.2.2.1, h.2.2.2.1, h.2.2.2.2.1, h.2.2.2.2.2.drew⟩
theorem TwoBox.start (w : World) (a b c d : Int) (t u : TypeId) : TwoBox w a b c d ((w.alloc (Obj.cells #[.int .i64 a, .int .i64 b] t)).alloc (Obj.cells #[.int .i64 c, .int .i64 d] u)) := by
  have h0 : ((w.alloc (Obj.cells #[.int .i64 a, .int .i64 b] t)).alloc (Obj.cells #[.int .i64 c, .int .i64 d] u)).heap[w.heap.size]? = some (.cells #[.int .i64 a, .int .i64 b] t (0, 0)) := by
    rw [Below.heap_alloc _ _ _ (by simp)]; exact heap_alloc_new w _
  have h1 : ((w.alloc (Obj.cells #[.int .i64 a, .int .i64 b] t)).alloc (Obj.cells #[.int .i64 c, .int .i64 d] u)).heap[w.heap.size + 1]? = some (.cells #[.int .i64 c, .int .i64 d] u (0, 0)) := by
    have := heap_alloc_new (w.alloc (Obj.cells #[.int .i64 a, .int .i64 b] t)) (Obj.cells #[.int .i64 c, .int .i64 d] u)
    rwa [World.size_alloc] at this
  exact ⟨by rw [cell_of_row _ _ _ _ _ _ h0]; rfl, by rw [cell_of_row _ _ _ _ _ _ h0]; rfl, by rw [cell_of_row _ _ _ _ _ _ h1]; rfl, by rw [cell_of_row _ _ _ _ _ _ h1]; rfl, by simp, ((Below.refl _ w).alloc (Nat.le_refl _) _).alloc (by simp) _⟩

theorem mul_bd {a b : Int} (ha : -1000000 ≤ a) (ha' : a ≤ 1000000) (hb : -1000000 ≤ b) (hb' : b ≤ 1000000) : -1000000000000 ≤ a * b ∧ a * b ≤ 1000000000000 := by
  have h : (a * b).natAbs ≤ 1000000 * 1000000 := by rw [Int.natAbs_mul]; exact Nat.mul_le_mul (by omega) (by omega)
  omega

end Go.Proofs.YtfickhncbahekaaDoor
