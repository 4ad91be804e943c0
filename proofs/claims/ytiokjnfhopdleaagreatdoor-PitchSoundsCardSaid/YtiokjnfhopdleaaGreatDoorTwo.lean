/- A box of two ints, open for writing, carried from call to call. Conditions: none. -/
import Derived.Test.YtiokjnfhopdleaaGreatDoorMem
namespace Go.Proofs.YtiokjnfhopdleaaGreatDoor
open Go.RowKit

/-- A box of two ints, open for writing. -/
def Two (w : World) (b : Nat) (x y : Int) : Prop :=
  w.cell? ⟨b, 0, none⟩ = some (.int .i64 x) ∧ w.cell? ⟨b, 1, none⟩ = some (.int .i64 y) ∧ w.frozen? ⟨b, 0, none⟩ = false ∧ w.frozen? ⟨b, 1, none⟩ = false ∧ b < w.heap.size
theorem Two.new (w : World) (x y : Int) (t : TypeId) : Two (w.alloc (.cells #[.int .i64 x, .int .i64 y] t)) w.heap.size x y :=
  ⟨by rw [World.cell?_alloc_new]; rfl, by rw [World.cell?_alloc_new]; rfl, World.frozen?_alloc_new _ _ _ _, World.frozen?_alloc_new _ _ _ _, by simp⟩
theorem Two.below {w w' : World} {b : Nat} {x y : Int} (h : Two w b x y) (hb : Below w.heap.size w w') : Two w' b x y := by
  obtain ⟨h1, h2, h3, h4, h5⟩ := h
  obtain ⟨hc, hf⟩ := bcell hb
  exact ⟨by rw [hc _ _ h5]; exact h1, by rw [hc _ _ h5]; exact h2, by rw [hf _ _ h5]; exact h3, by rw [hf _ _ h5]; exact h4, Nat.lt_of_lt_of_le h5 hb.size⟩
theorem Two.alloc {w : World} {b : Nat} {x y : Int} (h : Two w b x y) (o : Obj) : Two (w.alloc o) b x y := h.below (bw_new (Below.refl _ _) o)

end Go.Proofs.YtiokjnfhopdleaaGreatDoor
