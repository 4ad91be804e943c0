/- The lowest bit of a word, in plain numbers. No function of the program is named in this text. Conditions: those that each lemma names. -/
import Derived.Test.YtfickhncbahekaaDoorNset
namespace Go.Proofs.YtfickhncbahekaaDoor
open Go.RowKit

/-- Bit k is the lowest one. -/
def LowAt (x k : Nat) : Prop := x.testBit k = true ∧ ∀ i, i < k → x.testBit i = false
theorem low_ex : ∀ (n x : Nat), x < 2 ^ n → x ≠ 0 → ∃ k, k < n ∧ LowAt x k := by
  intro n x hx h0
  have hb : ∃ k, x.testBit k = true := by
    rcases Classical.em (∃ k, x.testBit k = true) with h | h
    · exact h
    · exfalso
      apply h0
      apply Nat.eq_of_testBit_eq
      intro i
      rw [Nat.zero_testBit]
      cases hi : x.testBit i with
      | false => rfl
      | true => exact absurd ⟨i, hi⟩ h
  obtain ⟨k, hk⟩ := hb
  have key : ∀ k, x.testBit k = true → ∃ j, LowAt x j := by
    intro k
    induction k using Nat.strongRecOn with
    | ind k ih =>
      intro hk
      rcases Classical.em (∃ i, i < k ∧ x.testBit i = true) with ⟨i, h1, h2⟩ | h
      · exact ih i h1 h2
      · refine ⟨k, hk, fun i hi => ?_⟩
        cases hq : x.testBit i with
        | false => rfl
        | true => exact absurd ⟨i, hi, hq⟩ h
  obtain ⟨j, hj⟩ := key k hk
  refine ⟨j, ?_, hj⟩
  rcases Nat.lt_or_ge j n with h | h
  · exact h
  · have := Nat.testBit_lt_two_pow (Nat.lt_of_lt_of_le hx (Nat.pow_le_pow_right (by decide) h))
    rw [hj.1] at this; cases this
theorem LowAt.split {x k : Nat} (h : LowAt x k) : x = 2 ^ (k + 1) * (x / 2 ^ (k + 1)) + 2 ^ k := by
  apply Nat.eq_of_testBit_eq
  intro i
  rw [Nat.testBit_two_pow_mul_add _ (show 2 ^ k < 2 ^ (k + 1) from Nat.pow_lt_pow_right (by decide) (by omega))]
  by_cases hi : i < k + 1
  · rw [if_pos hi, Nat.testBit_two_pow]
    by_cases e : k = i
    · subst e; rw [h.1]; simp
    · rw [h.2 i (by omega), decide_eq_false e]
  · rw [if_neg hi, Nat.testBit_div_two_pow, show i - (k + 1) + (k + 1) = i by omega]
theorem LowAt.pred {x k : Nat} (h : LowAt x k) (i : Nat) : (x - 1).testBit i = if i < k then true else if i = k then false else x.testBit i := by
  have hs := h.split
  have hp : 0 < 2 ^ k := Nat.two_pow_pos k
  have e : x - 1 = 2 ^ (k + 1) * (x / 2 ^ (k + 1)) + (2 ^ k - 1) := by
    generalize 2 ^ (k + 1) * (x / 2 ^ (k + 1)) = q at *
    generalize 2 ^ k = p at *
    omega
  rw [e, Nat.testBit_two_pow_mul_add _ (show 2 ^ k - 1 < 2 ^ (k + 1) by have : 2 ^ k < 2 ^ (k + 1) := Nat.pow_lt_pow_right (by decide) (by omega); omega)]
  by_cases hi : i < k + 1
  · rw [if_pos hi, Nat.testBit_two_pow_sub_one]
    by_cases h1 : i < k
    · rw [if_pos h1, decide_eq_true h1]
    · rw [if_neg h1, if_pos (by omega), decide_eq_false h1]
  · rw [if_neg hi, if_neg (by omega), if_neg (by omega), Nat.testBit_div_two_pow, show i - (k + 1) + (k + 1) = i by omega]
/-- The lowest bit, cut out. -/
theorem LowAt.neg {x k : Nat} (h : LowAt x k) (hx : x < 18446744073709551616) : x &&& (18446744073709551616 - x) = 2 ^ k := by
  have h0 : 0 < x := by
    rcases Nat.eq_zero_or_pos x with e | e
    · rw [e] at h; have := h.1; rw [Nat.zero_testBit] at this; cases this
    · exact e
  have hk : k < 64 := by
    rcases Nat.lt_or_ge k 64 with q | q
    · exact q
    · have := Nat.testBit_lt_two_pow (Nat.lt_of_lt_of_le (by rw [show (2 : Nat) ^ 64 = 18446744073709551616 by decide]; exact hx) (Nat.pow_le_pow_right (by decide) q))
      rw [h.1] at this; cases this
  apply Nat.eq_of_testBit_eq
  intro i
  have e : 18446744073709551616 - x = 2 ^ 64 - ((x - 1) + 1) := by omega
  rw [Nat.testBit_and, e, Nat.testBit_two_pow_sub_succ (by rw [show (2 : Nat) ^ 64 = 18446744073709551616 by decide]; omega), h.pred i, Nat.testBit_two_pow]
  by_cases h1 : i < k
  · have hd : decide (k = i) = false := decide_eq_false (by omega)
    rw [h.2 i h1, hd]; rfl
  · by_cases h2 : i = k
    · subst h2
      rw [h.1, if_neg h1, if_pos rfl, decide_eq_true hk]; simp
    · have hd : decide (k = i) = false := decide_eq_false (fun q => h2 q.symm)
      rw [if_neg h1, if_neg h2, hd]
      cases x.testBit i <;> simp
/-- The lowest bit, taken away. -/
theorem LowAt.clear {x k : Nat} (h : LowAt x k) (i : Nat) : (x &&& (x - 1)).testBit i = (x.testBit i && decide (k < i)) := by
  rw [Nat.testBit_and, h.pred i]
  by_cases h1 : i < k
  · rw [h.2 i h1]; simp
  · by_cases h2 : i = k
    · subst h2; simp
    · rw [if_neg h1, if_neg h2, decide_eq_true (by omega)]; simp
/-- The table by which the library finds the lowest bit. -/
def dbTab : List Int := [0, 1, 56, 2, 57, 49, 28, 3, 61, 58, 42, 50, 38, 29, 17, 4, 62, 47, 59, 36, 45, 43, 51, 22, 53, 39, 33, 30, 24, 18, 12, 5, 63, 55, 48, 27, 60, 41, 37, 16, 46, 35, 44, 21, 52, 32, 23, 11, 54, 26, 40, 15, 34, 20, 31, 10, 25, 14, 19, 9, 13, 8, 7, 6]
def dbIx (k : Nat) : Nat := (2 ^ k * 285870213051353865) % 18446744073709551616 / 288230376151711744
theorem db_ok : ∀ k : Fin 64, dbIx k.val < 64 ∧ dbTab.getD (dbIx k.val) 0 = (k.val : Int) := by decide +kernel
theorem dbTab_len : dbTab.length = 64 := by decide +kernel
theorem db_get (k : Nat) (hk : k < 64) : dbIx k < dbTab.length ∧ dbTab.getD (dbIx k) 0 = (k : Int) := by
  obtain ⟨h1, h2⟩ := db_ok ⟨k, hk⟩
  exact ⟨by rw [dbTab_len]; exact h1, h2⟩
theorem db_mul {k y : Nat} (hy : y = 2 ^ k * 285870213051353865 % 18446744073709551616) : dbIx k = y / 288230376151711744 := by rw [hy]; rfl
theorem wrap_mul (p : Nat) : IntKind.u64.wrap ((p : Int) * 285870213051353865) = ((p * 285870213051353865 % 18446744073709551616 : Nat) : Int) := by
  have e : ∀ n : Int, IntKind.u64.wrap n = n % 18446744073709551616 := fun n => by simp [IntKind.wrap, IntKind.bits, IntKind.signed]
  rw [e, Int.natCast_emod, Int.natCast_mul]; rfl
theorem wrap_neg {x : Nat} (h0 : x ≠ 0) (hx : x < 18446744073709551616) : IntKind.u64.wrap (-(x : Int)) = ((18446744073709551616 - x : Nat) : Int) := by
  have e : IntKind.u64.wrap (-(x : Int)) = (-(x : Int)) % 18446744073709551616 := by simp [IntKind.wrap, IntKind.bits, IntKind.signed]
  rw [e]; omega

end Go.Proofs.YtfickhncbahekaaDoor
