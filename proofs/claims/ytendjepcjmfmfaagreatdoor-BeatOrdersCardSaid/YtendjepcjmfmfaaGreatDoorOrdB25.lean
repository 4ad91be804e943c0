/- Part 25 of 47 of the proof of the law: contracts of the functions that it reaches, and plain facts. Conditions: those that each contract names. -/
import Derived.Test.YtendjepcjmfmfaaGreatDoorOrdB24
import Derived.Test.YtendjepcjmfmfaaGreatDoorOrdB13
import Derived.Test.YtendjepcjmfmfaaGreatDoorOrdB03
import Derived.Test.YtendjepcjmfmfaaGreatDoorOrdB23
import Derived.BigQuiet
import Derived.Deep.QuietTactic
namespace Go.Proofs.YtendjepcjmfmfaaGreatDoor
section
section
open Go.RowKit
end
section
open Go.RowKit
end
end
section
open Go.RowKit
end
section
open Go.RowKit
theorem pow_digits (a : Int) (k : Nat) : Lib.nDigits (a ^ k).natAbs ≤ k * Lib.nDigits a.natAbs + 1 := by
 refine nDigits_le _ _ (by omega) ?_
 rw [Int.natAbs_pow]
 have h1 : a.natAbs ^ k ≤ (10 ^ Lib.nDigits a.natAbs) ^ k := Nat.pow_le_pow_left (Nat.le_of_lt (Lib.lt_pow_nDigits _)) k
 rw [← Nat.pow_mul, Nat.mul_comm] at h1
 refine Nat.lt_of_le_of_lt h1 (Nat.pow_lt_pow_right (by decide) (by omega))
theorem dec_one : dec 1 = ⟨#[49]⟩ := by
 unfold dec
 rw [show Lib.itoa 1 = [49] by rw [show (1 : Int) = ((1 : Nat) : Int) from rfl, Lib.itoa_nonneg, Lib.decDigits_one (by decide)]; rfl]
end
end Go.Proofs.YtendjepcjmfmfaaGreatDoor
