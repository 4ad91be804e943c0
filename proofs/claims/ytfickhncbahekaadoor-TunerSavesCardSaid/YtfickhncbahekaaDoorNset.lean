/- Sets of notes, in plain numbers: two words of 64 bits. No function of the program is named in this text. Conditions: those that each lemma names. -/
import Derived.Test.YtfickhncbahekaaDoorMem
import Derived.Laws.BitsLemmas
namespace Go.Proofs.YtfickhncbahekaaDoor
open Go.RowKit

/-- Both words are of 64 bits. -/
def NOk (s : Nat × Nat) : Prop := s.1 < 18446744073709551616 ∧ s.2 < 18446744073709551616
/-- A note is in a set. -/
def hasN (s : Nat × Nat) (n : Nat) : Bool := if n < 64 then s.1.testBit n else s.2.testBit (n - 64)
def withN (s : Nat × Nat) (n : Nat) : Nat × Nat := if n < 64 then (s.1 ||| 2 ^ n, s.2) else (s.1, s.2 ||| 2 ^ (n - 64))
/-- A set by value. -/
def nv (s : Nat × Nat) : Value := .agg #[.int .u64 (s.1 : Int), .int .u64 (s.2 : Int)]
theorem pow_lt64 {n : Nat} (h : n < 64) : 2 ^ n < 18446744073709551616 := by
  rw [show (18446744073709551616 : Nat) = 2 ^ 64 by decide]
  exact Nat.pow_lt_pow_right (by decide) h
theorem or_lt64 {a b : Nat} (ha : a < 18446744073709551616) (hb : b < 18446744073709551616) : a ||| b < 18446744073709551616 := by
  rw [show (18446744073709551616 : Nat) = 2 ^ 64 by decide] at *
  exact Nat.or_lt_two_pow ha hb
theorem withN_ok {s : Nat × Nat} (h : NOk s) {n : Nat} (hn : n < 128) : NOk (withN s n) := by
  unfold withN
  by_cases k : n < 64
  · rw [if_pos k]; exact ⟨or_lt64 h.1 (pow_lt64 k), h.2⟩
  · rw [if_neg k]; exact ⟨h.1, or_lt64 h.2 (pow_lt64 (by omega))⟩
theorem hasN_with (s : Nat × Nat) (n m : Nat) : hasN (withN s n) m = (hasN s m || decide (m = n)) := by
  unfold hasN withN
  by_cases k : n < 64
  · rw [if_pos k]
    by_cases j : m < 64
    · rw [if_pos j, if_pos j]
      simp only [Nat.testBit_or, Nat.testBit_two_pow]
      congr 1
      exact decide_eq_decide.2 ⟨fun h => h.symm, fun h => h.symm⟩
    · rw [if_neg j, if_neg j, decide_eq_false (by omega), Bool.or_false]
  · rw [if_neg k]
    by_cases j : m < 64
    · rw [if_pos j, if_pos j, decide_eq_false (by omega), Bool.or_false]
    · rw [if_neg j, if_neg j]
      simp only [Nat.testBit_or, Nat.testBit_two_pow]
      congr 1
      exact decide_eq_decide.2 ⟨fun h => by omega, fun h => by omega⟩
theorem ns_ext {s t : Nat × Nat} (hs : NOk s) (ht : NOk t) (h : ∀ m, m < 128 → hasN s m = hasN t m) : s = t := by
  have big : ∀ {a : Nat}, a < 18446744073709551616 → ∀ i, 64 ≤ i → a.testBit i = false := fun {a} ha i hi => by
    apply Nat.testBit_lt_two_pow
    rw [show (18446744073709551616 : Nat) = 2 ^ 64 by decide] at ha
    exact Nat.lt_of_lt_of_le ha (Nat.pow_le_pow_right (by decide) hi)
  refine Prod.ext (Nat.eq_of_testBit_eq fun i => ?_) (Nat.eq_of_testBit_eq fun i => ?_)
  · by_cases hi : i < 64
    · have := h i (by omega)
      unfold hasN at this
      rwa [if_pos hi, if_pos hi] at this
    · rw [big hs.1 i (by omega), big ht.1 i (by omega)]
  · by_cases hi : i < 64
    · have := h (i + 64) (by omega)
      unfold hasN at this
      rw [if_neg (by omega), if_neg (by omega), Nat.add_sub_cancel] at this
      exact this
    · rw [big hs.2 i (by omega), big ht.2 i (by omega)]
theorem hasN_zero (m : Nat) : hasN (0, 0) m = false := by unfold hasN; simp
/-- The notes of a set, in order. -/
def listN (s : Nat × Nat) : List Int := ((List.range 128).filter (hasN s)).map fun n : Nat => (n : Int)
theorem mem_listN {s : Nat × Nat} {n : Int} : n ∈ listN s ↔ ∃ k : Nat, n = k ∧ k < 128 ∧ hasN s k = true := by
  unfold listN
  simp only [List.mem_map, List.mem_filter, List.mem_range]
  constructor
  · rintro ⟨k, ⟨h1, h2⟩, rfl⟩; exact ⟨k, rfl, h1, h2⟩
  · rintro ⟨k, rfl, h1, h2⟩; exact ⟨k, ⟨h1, h2⟩, rfl⟩
theorem listN_sorted (s : Nat × Nat) : (listN s).Pairwise (· < ·) := by
  unfold listN
  rw [List.pairwise_map]
  exact (List.pairwise_lt_range.filter _).imp (fun h => by omega)

theorem wrapU64 (n : Int) (h0 : 0 ≤ n) (h1 : n < 18446744073709551616) : IntKind.u64.wrap n = n := by
  have e : IntKind.u64.wrap n = n % 18446744073709551616 := by simp [IntKind.wrap, IntKind.bits, IntKind.signed]
  rw [e]; omega
/-- The bits of a set without another one. -/
theorem andNot_u64 {a b : Nat} (ha : a < 18446744073709551616) (hb : b < 18446744073709551616) : Go.bits .andNot .u64 (a : Int) (b : Int) = ((a &&& (18446744073709551615 - b) : Nat) : Int) := by
  have e : ∀ n : Nat, n < 18446744073709551616 → (BitVec.ofInt 64 (n : Int)).toNat = n := fun n hn => by
    simp; omega
  show IntKind.u64.wrap ((BitVec.ofInt 64 (a : Int) &&& ~~~BitVec.ofInt 64 (b : Int)).toNat : Int) = _
  rw [BitVec.toNat_and, BitVec.toNat_not, e a ha, e b hb]
  have h2 : a &&& (2 ^ 64 - 1 - b) ≤ a := Nat.and_le_left
  rw [show (2 : Nat) ^ 64 - 1 - b = 18446744073709551615 - b by rfl] at *
  exact wrapU64 _ (by omega) (by omega)
theorem or_u64 {a b : Nat} (ha : a < 18446744073709551616) (hb : b < 18446744073709551616) : Go.bits .or .u64 (a : Int) (b : Int) = ((a ||| b : Nat) : Int) := by
  have hk : ∀ n : Int, 0 ≤ n → n < 2 ^ 64 → IntKind.u64.wrap n = n := fun n h0 h1 => wrapU64 n h0 (by rw [show (18446744073709551616 : Int) = 2 ^ 64 by decide]; exact h1)
  exact (bits_nat .u64 64 (by decide) hk a b ha hb).2
theorem and_u64 {a b : Nat} (ha : a < 18446744073709551616) (hb : b < 18446744073709551616) : Go.bits .and .u64 (a : Int) (b : Int) = ((a &&& b : Nat) : Int) := by
  have hk : ∀ n : Int, 0 ≤ n → n < 2 ^ 64 → IntKind.u64.wrap n = n := fun n h0 h1 => wrapU64 n h0 (by rw [show (18446744073709551616 : Int) = 2 ^ 64 by decide]; exact h1)
  exact (bits_nat .u64 64 (by decide) hk a b ha hb).1
theorem andNot_zero {a b : Nat} (hb : b < 18446744073709551616) (ha : a < 18446744073709551616) : a &&& (18446744073709551615 - b) = 0 ↔ ∀ i, a.testBit i = true → b.testBit i = true := by
  have ht : ∀ i, (a &&& (18446744073709551615 - b)).testBit i = (a.testBit i && !b.testBit i) := fun i => by
    rw [Nat.testBit_and]
    have e : (18446744073709551615 - b) = 2 ^ 64 - (b + 1) := by omega
    rw [e, Nat.testBit_two_pow_sub_succ (by rw [show (2 : Nat) ^ 64 = 18446744073709551616 by decide]; exact hb)]
    by_cases hi : i < 64
    · simp [hi]
    · have : a.testBit i = false := by
        apply Nat.testBit_lt_two_pow
        exact Nat.lt_of_lt_of_le (by rw [show (2 : Nat) ^ 64 = 18446744073709551616 by decide]; exact ha) (Nat.pow_le_pow_right (by decide) (Nat.le_of_not_lt hi))
      simp [this]
  constructor
  · intro h i hi
    have := ht i
    rw [h, Nat.zero_testBit, hi] at this
    simpa using this
  · intro h
    apply Nat.eq_of_testBit_eq
    intro i
    rw [ht, Nat.zero_testBit]
    cases k : a.testBit i with
    | false => rfl
    | true => rw [h i k]; rfl
/-- All notes of the first set are in the second one. -/
def withinB (s t : Nat × Nat) : Bool := (s.1 &&& (18446744073709551615 - t.1) == 0) && (s.2 &&& (18446744073709551615 - t.2) == 0)
theorem withinB_iff {s t : Nat × Nat} (hs : NOk s) (ht : NOk t) : withinB s t = true ↔ ∀ n, n < 128 → hasN s n = true → hasN t n = true := by
  unfold withinB
  rw [Bool.and_eq_true, beq_iff_eq, beq_iff_eq, andNot_zero ht.1 hs.1, andNot_zero ht.2 hs.2]
  have big : ∀ {a : Nat}, a < 18446744073709551616 → ∀ i, a.testBit i = true → i < 64 := fun {a} ha i hi => by
    rcases Nat.lt_or_ge i 64 with h | h
    · exact h
    · rw [Nat.testBit_lt_two_pow (Nat.lt_of_lt_of_le (by rw [show (2 : Nat) ^ 64 = 18446744073709551616 by decide]; exact ha) (Nat.pow_le_pow_right (by decide) h))] at hi
      cases hi
  constructor
  · rintro ⟨h1, h2⟩ n hn h
    unfold hasN at h ⊢
    by_cases k : n < 64
    · rw [if_pos k] at h ⊢; exact h1 n h
    · rw [if_neg k] at h ⊢; exact h2 _ h
  · intro h
    refine ⟨fun i hi => ?_, fun i hi => ?_⟩
    · have hlt := big hs.1 i hi
      have := h i (by omega)
      unfold hasN at this
      rw [if_pos hlt, if_pos hlt] at this
      exact this hi
    · have hlt := big hs.2 i hi
      have := h (i + 64) (by omega)
      unfold hasN at this
      rw [if_neg (by omega), if_neg (by omega), Nat.add_sub_cancel] at this
      exact this hi

end Go.Proofs.YtfickhncbahekaaDoor
