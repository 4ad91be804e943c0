/- strconv.Atoi at decimal digits, and at the text of an integer. Conditions: at most eighteen bytes. -/
import Derived.Test.YtkamepalomkpbaaGreatDoorDec
import Derived.Test.YtkamepalomkpbaaGreatDoorShelf
import Derived.Lib.AtoiErrMem
namespace Go.Proofs.YtkamepalomkpbaaGreatDoor
open Go.RowKit

theorem decFrom_digs : ∀ (l : List UInt8) (a : Nat), Digs l → Lib.decFrom a l = some (a * 10 ^ l.length + dval l)
  | [], a, _ => by simp [Lib.decFrom, dval]
  | c :: l, a, h => by
    have hc := h c (List.mem_cons_self ..)
    have hl : Digs l := fun x hx => h x (List.mem_cons_of_mem _ hx)
    have ih := decFrom_digs l (a * 10 + (c.toNat - 48)) hl
    have hd : Lib.digitVal c = some (c.toNat - 48) := if_pos hc
    simp only [Lib.decFrom, hd]
    rw [ih]
    have e : dval (c :: l) = (c.toNat - 48) * 10 ^ l.length + dval l := by
      have := foldl_dval l (10 * 0 + (c.toNat - 48))
      rw [Nat.mul_zero, Nat.zero_add] at this
      unfold dval
      rw [List.foldl_cons, Nat.mul_zero, Nat.zero_add]
      exact this
    rw [e, List.length_cons, Nat.pow_succ]
    congr 1
    rw [Nat.add_mul, Nat.mul_assoc, Nat.mul_comm 10]; omega
theorem decNat_digs (l : List UInt8) (h : Digs l) (hl : l ≠ []) : Lib.decNat l = some (dval l) := by
  unfold Lib.decNat
  rw [if_neg (by simpa using hl), decFrom_digs l 0 h]; simp
theorem atoi_digs (l : List UInt8) (h : Digs l) (hl : l ≠ []) : Lib.atoi l = some (dval l : Int) := by
  cases l with
  | nil => exact absurd rfl hl
  | cons c l =>
    have hc := h c (List.mem_cons_self ..)
    have h1 : (c == 45) = false := by
      rw [beq_eq_false_iff_ne]; rintro rfl; revert hc; decide
    have h2 : (c == 43) = false := by
      rw [beq_eq_false_iff_ne]; rintro rfl; revert hc; decide
    unfold Lib.atoi
    simp only [h1, h2, Bool.false_eq_true, if_false]
    rw [decNat_digs _ h hl]; rfl
theorem atoi_itoa (z : Int) : Lib.atoi (Lib.itoa z) = some z := by
  by_cases h : z < 0
  · obtain ⟨u, rfl⟩ : ∃ u : Nat, z = -(u : Int) := ⟨z.natAbs, by omega⟩
    rw [Lib.itoa_neg u (by omega)]
    unfold Lib.atoi
    simp only [show ((45 : UInt8) == 45) = true from rfl, if_true]
    rw [decNat_digs _ (digs_dec _) (dec_ne_nil _), dval_dec]
    rfl
  · obtain ⟨n, rfl⟩ := Int.eq_ofNat_of_zero_le (show 0 ≤ z by omega)
    rw [Lib.itoa_nonneg, atoi_digs _ (digs_dec _) (dec_ne_nil _), dval_dec]

theorem atoi_any (s : ByteArray) (n : Int) (w : World) (hl : s.size ≤ 18) (h : Lib.atoi s.data.toList = some n) :
    Calls Tryz.prog 97 #[.string s] w fun e w' => e = .returned (.tuple #[.int .i64 n, .nilIface]) ∧ Below w.heap.size w w' :=
  (Tryz.strconv_Atoi s n hl h w).mono fun e w' ⟨he, t, hw⟩ => ⟨he, by rw [hw]; exact Lib.bytesWorld_below _ _ _⟩
theorem atoi_dig (s : ByteArray) (w : World) (hl : s.size ≤ 18) (h0 : 0 < s.size) (h : Digs s.data.toList) :
    Calls Tryz.prog 97 #[.string s] w fun e w' => e = .returned (.tuple #[.int .i64 (dval s.data.toList), .nilIface]) ∧ Below w.heap.size w w' :=
  atoi_any s _ w hl (atoi_digs _ h (fun e => by have : s.data.toList.length = 0 := by rw [e]; rfl
                                                rw [Array.length_toList] at this
                                                exact absurd this (by show s.size ≠ 0; omega)))
theorem atoi_dec (z : Int) (w : World) (hl : (dec z).size ≤ 18) :
    Calls Tryz.prog 97 #[.string (dec z)] w fun e w' => e = .returned (.tuple #[.int .i64 z, .nilIface]) ∧ Below w.heap.size w w' :=
  atoi_any _ z w hl (by rw [dec_list]; exact atoi_itoa z)

end Go.Proofs.YtkamepalomkpbaaGreatDoor
