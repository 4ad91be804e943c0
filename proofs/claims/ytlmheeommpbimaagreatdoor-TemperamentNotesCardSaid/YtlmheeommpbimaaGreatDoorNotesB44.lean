/- Part 44 of 45 of the proof of the law: contracts of the functions that it reaches, and plain facts. Conditions: those that each contract names. -/
import Derived.Test.YtlmheeommpbimaaGreatDoorNotesB43
namespace Go.Proofs.YtlmheeommpbimaaGreatDoor
open Go.RowKit
section
variable {d : Int} {P S : Nat → Int} (h : PlnC d P S)
include h
theorem lsize_ln {n : Nat} (hb : lnB d P S n = true) (w : World) :
  Calls Tryz.prog 16 #[ovn (lnV d P S n)] w fun e w' => e = .returned (szD (vN d P S n).1 (vN d P S n).2.1 (vN d P S n).2.2 d) ∧ Below w.heap.size w w' := by
 unfold lnV
 rw [if_pos hb]
 exact lsize_nrm w (pl_d h) (vN_Bx h n)
theorem lsize_lb {m n : Nat} (hm : m < 200) (hn : n < 200) (hb : lbB d P S m n = true) (w : World) :
  Calls Tryz.prog 16 #[ovn (lbV d P S m n)] w fun e w' => e = .returned (szD (vB d P S m n).1 (vB d P S m n).2.1 (vB d P S m n).2.2 d) ∧ Below w.heap.size w w' := by
 unfold lbV
 rw [if_pos hb]
 exact lsize_nrm w (pl_d h) (vB_Bx h hm hn)
end
theorem lnoteslaw_any (n d x na nb : Int) (X : Nat → Int × Int) (w : World) (ht : Tab w) (hn : 0 ≤ n ∧ n < 256) (hd : 0 ≤ d ∧ d < 256) (hX : ∀ i, i < 12 → (-128 ≤ (X i).1 ∧ (X i).1 ≤ 127) ∧ (-128 ≤ (X i).2 ∧ (X i).2 ≤ 127)) :
  Calls Tryz.prog 7 #[.agg (plC n X d).toArray, .int .i64 x, .agg #[.int .i64 na, .int .i64 nb]] w fun e w' => e = .returned (.bool true) ∧ Below w.heap.size w w' := by
 have h := pl_pln n d X
 have hMK := fun W => lMake_any n d X W hn hd hX
 generalize plD n d = D at *
 generalize plP n X = P at *
 generalize plQ n X = S at *
 have k0 := ckE_pl h
 have h64 := plan_tm h
 have hNX : x < 0 ∨ 11 < x → ∀ W, Tab W → Calls Tryz.prog 31 #[.agg (cirL (cirP D P S)).toArray, .int .i64 x] W fun e w' => e = .returned (.tuple #[szv 0 0 0 0 0 0, .int .i64 3]) ∧ Below W.heap.size W w' := fun hx W _ => by
  have e : ixE (cirP D P S) x = 3 := by unfold ixE; rw [if_neg (by rw [k0]; decide), if_pos hx]
  have := tNote_err (cirP D P S) x W h64 (by rw [e]; decide)
  rwa [e] at this
 by_cases hm : 0 ≤ min na nb ∧ max na nb ≤ 127
 ·obtain ⟨a, rfl⟩ : ∃ a : Nat, na = (a : Int) := ⟨na.toNat, by omega⟩
  obtain ⟨b, rfl⟩ : ∃ b : Nat, nb = (b : Int) := ⟨nb.toNat, by omega⟩
  have ha : a < 128 := by omega
  have hb : b < 128 := by omega
  have hBE := fun W hT => tBetween_pl h (m := a) (n := b) (by omega) (by omega) W hT
  have hLB := fun W hT => lbetween_pl h (m := a) (n := b) (by omega) (by omega) W hT
  have hSY := fun hq W => lsize_lb h (m := a) (n := b) (by omega) (by omega) hq W
  by_cases hx : 0 ≤ x ∧ x ≤ 11
  ·obtain ⟨i, rfl⟩ : ∃ i : Nat, x = (i : Int) := ⟨x.toNat, by omega⟩
   have hi : i < 12 := by omega
   exact lnotes_in n d X (cirP D P S) i a b _ _ _ _ _ _ _ _ _ _ _ _ _ _ _ _ 0 _ _ _ _ (lnB D P S i) (lbB D P S a b) w ht hx hMK (fun W hT => tNote_pl D P S i W hT h h64 k0 hi) hBE (fun W hT => lnote_pl h hi W hT) (fun hq W => lsize_ln h hq W) (fun _ => ⟨rfl, hLB⟩) hSY (fun hq => absurd hq (by omega))
  ·exact lnotes_out n d X (cirP D P S) x a b _ _ _ _ _ _ 0 _ _ _ _ (lbB D P S a b) w ht (by omega) hMK (hNX (by omega)) hBE (fun _ => ⟨rfl, hLB⟩) hSY (fun hq => absurd hq (by omega))
 ·have hBE := fun W (_ : Tab W) => tBetween_rng (cirP D P S) na nb W h64 k0 (by omega)
  by_cases hx : 0 ≤ x ∧ x ≤ 11
  ·obtain ⟨i, rfl⟩ : ∃ i : Nat, x = (i : Int) := ⟨x.toNat, by omega⟩
   have hi : i < 12 := by omega
   exact lnotes_in n d X (cirP D P S) i na nb _ _ _ _ _ _ _ _ _ _ 0 0 0 0 0 0 3 0 0 0 0 (lnB D P S i) false w ht hx hMK (fun W hT => tNote_pl D P S i W hT h h64 k0 hi) hBE (fun W hT => lnote_pl h hi W hT) (fun hq W => lsize_ln h hq W) (fun hq => absurd hq hm) (fun hq => by cases hq) (fun _ => ⟨rfl, rfl, rfl, rfl, rfl, rfl, rfl⟩)
  ·exact lnotes_out n d X (cirP D P S) x na nb 0 0 0 0 0 0 3 0 0 0 0 false w ht (by omega) hMK (hNX (by omega)) hBE (fun hq => absurd hq hm) (fun hq => by cases hq) (fun _ => ⟨rfl, rfl, rfl, rfl, rfl, rfl, rfl⟩)
end Go.Proofs.YtlmheeommpbimaaGreatDoor
