/- Plain laws on the shift of a quotient: the nearest number of twelfths of an octave, told by powers of integers. No program in this text. Conditions: numerator and denominator are greater than 0. -/
import Derived.Test.YtiokjnfhopdleaaGreatDoorNum
namespace Go.Proofs.YtiokjnfhopdleaaGreatDoor

/-- s twelfths of an octave are nearest to the quotient: 4 to the s, times 1/2 and 2, lie on both sides of the quotient to the power 24. -/
def IsShift (num den : Nat) (s : Int) : Prop := ∀ a b : Nat, (a : Int) - b = s → den ^ 24 * 4 ^ a < 2 * (num ^ 24 * 4 ^ b) ∧ num ^ 24 * 4 ^ b < 2 * (den ^ 24 * 4 ^ a)

theorem pow4_pos (k : Nat) : 0 < 4 ^ k := Nat.pow_pos (by decide)
theorem IsShift.mk {num den : Nat} {s : Int} (a b : Nat) (hs : (a : Int) - b = s) (h1 : den ^ 24 * 4 ^ a < 2 * (num ^ 24 * 4 ^ b)) (h2 : num ^ 24 * 4 ^ b < 2 * (den ^ 24 * 4 ^ a)) : IsShift num den s := by
  intro a' b' hs'
  generalize num ^ 24 = N at *
  generalize den ^ 24 = D at *
  rcases Nat.le_total a a' with h | h
  · obtain ⟨k, rfl⟩ : ∃ k, a' = a + k := ⟨a' - a, by omega⟩
    obtain rfl : b' = b + k := by omega
    have hp := pow4_pos k
    rw [Nat.pow_add, Nat.pow_add]
    generalize (4 : Nat) ^ a = A at *
    generalize (4 : Nat) ^ b = B at *
    generalize (4 : Nat) ^ k = K at *
    have q1 := Nat.mul_lt_mul_of_pos_right h1 hp
    have q2 := Nat.mul_lt_mul_of_pos_right h2 hp
    rw [show D * (A * K) = D * A * K by ac_rfl, show 2 * (N * (B * K)) = 2 * (N * B) * K by ac_rfl, show N * (B * K) = N * B * K by ac_rfl, show 2 * (D * A * K) = 2 * (D * A) * K by ac_rfl]
    exact ⟨q1, q2⟩
  · obtain ⟨k, rfl⟩ : ∃ k, a = a' + k := ⟨a - a', by omega⟩
    obtain rfl : b = b' + k := by omega
    rw [Nat.pow_add, Nat.pow_add, ← Nat.mul_assoc, ← Nat.mul_assoc, ← Nat.mul_assoc] at h1 h2
    rw [← Nat.mul_assoc, ← Nat.mul_assoc]
    exact ⟨Nat.lt_of_mul_lt_mul_right h1, Nat.lt_of_mul_lt_mul_right h2⟩
theorem IsShift.unique {num den : Nat} {s t : Int} (h : IsShift num den s) (k : IsShift num den t) : s = t := by
  have key : ∀ {s t : Int}, IsShift num den s → IsShift num den t → ¬ s < t := by
    intro s t h k hlt
    obtain ⟨b, hb⟩ : ∃ b : Nat, b = s.natAbs := ⟨_, rfl⟩
    obtain ⟨a, ha⟩ : ∃ a : Nat, (a : Int) = s + b := ⟨(s + b).toNat, by omega⟩
    obtain ⟨d, hd⟩ : ∃ d : Nat, (d : Int) = t - s - 1 := ⟨(t - s - 1).toNat, by omega⟩
    have h1 := (h a b (by omega)).2
    have h2 := (k (a + d + 1) b (by omega)).1
    generalize num ^ 24 * 4 ^ b = N at *
    generalize den ^ 24 = D at *
    have h3 : D * 4 ^ a ≤ D * (4 ^ a * 4 ^ d) := Nat.mul_le_mul_left _ (Nat.le_mul_of_pos_right _ (pow4_pos d))
    have e : D * 4 ^ (a + d + 1) = D * (4 ^ a * 4 ^ d) * 4 := by rw [Nat.pow_succ, Nat.pow_add]; ac_rfl
    rw [e] at h2
    generalize D * 4 ^ a = X at *
    generalize D * (4 ^ a * 4 ^ d) = Y at *
    omega
  have := key h k
  have := key k h
  omega
theorem IsShift.symm {num den : Nat} {s : Int} (h : IsShift num den s) : IsShift den num (-s) := fun a b hs => by
  have := h b a (by omega)
  exact ⟨this.2, this.1⟩
theorem IsShift.same {n : Nat} (hn : 0 < n) : IsShift n n 0 := by
  have hp : 0 < n ^ 24 := Nat.pow_pos hn
  exact .mk 0 0 (by omega) (by omega) (by omega)
theorem IsShift.scale {num den k : Nat} {s : Int} (hk : 0 < k) : IsShift (k * num) (k * den) s ↔ IsShift num den s := by
  have hp : 0 < k ^ 24 := Nat.pow_pos hk
  have e : ∀ a b : Nat, ((k * den) ^ 24 * 4 ^ a < 2 * ((k * num) ^ 24 * 4 ^ b) ↔ den ^ 24 * 4 ^ a < 2 * (num ^ 24 * 4 ^ b)) ∧ ((k * num) ^ 24 * 4 ^ b < 2 * ((k * den) ^ 24 * 4 ^ a) ↔ num ^ 24 * 4 ^ b < 2 * (den ^ 24 * 4 ^ a)) := by
    intro a b
    rw [Nat.mul_pow, Nat.mul_pow]
    generalize k ^ 24 = K at *
    generalize num ^ 24 = N at *
    generalize den ^ 24 = D at *
    generalize (4 : Nat) ^ a = A at *
    generalize (4 : Nat) ^ b = B at *
    rw [show K * D * A = K * (D * A) by ac_rfl, show 2 * (K * N * B) = K * (2 * (N * B)) by ac_rfl, show K * N * B = K * (N * B) by ac_rfl, show 2 * (K * (D * A)) = K * (2 * (D * A)) by ac_rfl]
    exact ⟨Nat.mul_lt_mul_left hp, Nat.mul_lt_mul_left hp⟩
  constructor
  · intro h a b hs
    have := h a b hs
    exact ⟨(e a b).1.1 this.1, (e a b).2.1 this.2⟩
  · intro h a b hs
    have := h a b hs
    exact ⟨(e a b).1.2 this.1, (e a b).2.2 this.2⟩
theorem p24 (n : Nat) : (2 * n) ^ 24 = n ^ 24 * 4 ^ 12 := by
  rw [Nat.mul_pow, Nat.mul_comm]
/-- A numerator twice as great: an octave more. -/
theorem IsShift.num2 {num den : Nat} {s : Int} (h : IsShift (2 * num) den s) : IsShift num den (s - 12) := fun a b hs => by
  have := h (a + 12) b (by omega)
  rw [p24, Nat.pow_add 4 a 12, ← Nat.mul_assoc, Nat.mul_right_comm (num ^ 24)] at this
  have hp := pow4_pos 12
  generalize (4 : Nat) ^ 12 = P at *
  rw [← Nat.mul_assoc, ← Nat.mul_assoc 2 (den ^ 24 * 4 ^ a)] at this
  exact ⟨Nat.lt_of_mul_lt_mul_right this.1, Nat.lt_of_mul_lt_mul_right this.2⟩
theorem IsShift.num2' {num den : Nat} {s : Int} (h : IsShift num den s) : IsShift (2 * num) den (s + 12) := by
  obtain ⟨b, hb⟩ : ∃ b : Nat, b = s.natAbs := ⟨_, rfl⟩
  obtain ⟨a, ha⟩ : ∃ a : Nat, (a : Int) = s + b := ⟨(s + b).toNat, by omega⟩
  have := h a b (by omega)
  have hp := pow4_pos 12
  have e1 : den ^ 24 * 4 ^ (a + 12) = den ^ 24 * 4 ^ a * 4 ^ 12 := by rw [Nat.pow_add]; ac_rfl
  have e2 : (2 * num) ^ 24 * 4 ^ b = num ^ 24 * 4 ^ b * 4 ^ 12 := by rw [p24]; ac_rfl
  refine .mk (a + 12) b (by omega) ?_ ?_
  · rw [e1, e2, ← Nat.mul_assoc 2]
    exact Nat.mul_lt_mul_of_pos_right this.1 hp
  · rw [e1, e2, ← Nat.mul_assoc 2]
    exact Nat.mul_lt_mul_of_pos_right this.2 hp
theorem IsShift.den2 {num den : Nat} {s : Int} (h : IsShift num (2 * den) s) : IsShift num den (s + 12) := by
  have := h.symm.num2.symm
  rwa [show -(-s - 12) = s + 12 by omega] at this
theorem IsShift.mono {n d n' d' : Nat} {s t : Int} (h : IsShift n d s) (k : IsShift n' d' t) (hd : 0 < d) (hd' : 0 < d') (hle : n * d' ≤ n' * d) : s ≤ t := by
  by_cases h1 : s ≤ t
  · exact h1
  · exfalso
    obtain ⟨b, hb⟩ : ∃ b : Nat, b = t.natAbs := ⟨_, rfl⟩
    obtain ⟨a, ha⟩ : ∃ a : Nat, (a : Int) = t + b := ⟨(t + b).toNat, by omega⟩
    obtain ⟨c, hc⟩ : ∃ c : Nat, (c : Int) = s - t - 1 := ⟨(s - t - 1).toNat, by omega⟩
    have h2 := (k a b (by omega)).2
    have h3 := (h (a + c + 1) b (by omega)).1
    rw [show (4 : Nat) ^ (a + c + 1) = 4 ^ a * 4 ^ c * 4 by rw [Nat.pow_succ (n := 4), Nat.pow_add]] at h3
    have h4 : n ^ 24 * d' ^ 24 ≤ n' ^ 24 * d ^ 24 := by rw [← Nat.mul_pow, ← Nat.mul_pow]; exact Nat.pow_le_pow_left hle 24
    have p1 : 0 < d ^ 24 := Nat.pow_pos hd
    have p2 : 0 < d' ^ 24 := Nat.pow_pos hd'
    have p3 := pow4_pos a
    have p4 := pow4_pos b
    have p5 := pow4_pos c
    generalize n ^ 24 = N at *
    generalize n' ^ 24 = N' at *
    generalize d ^ 24 = D at *
    generalize d' ^ 24 = D' at *
    generalize (4 : Nat) ^ a = A at *
    generalize (4 : Nat) ^ b = B at *
    generalize (4 : Nat) ^ c = C at *
    -- D A C 4 < 2 N B, N' B < 2 D' A, N D' <= N' D
    have q1 : D * (A * C * 4) * D' < 2 * (N * B) * D' := Nat.mul_lt_mul_of_pos_right h3 p2
    have q2 : N' * B * (2 * D) < 2 * (D' * A) * (2 * D) := Nat.mul_lt_mul_of_pos_right h2 (by omega)
    have q3 : N * D' * (2 * B) ≤ N' * D * (2 * B) := Nat.mul_le_mul_right _ h4
    have e1 : 2 * (N * B) * D' = N * D' * (2 * B) := by ac_rfl
    have e2 : N' * B * (2 * D) = N' * D * (2 * B) := by ac_rfl
    have e3 : 2 * (D' * A) * (2 * D) = D * A * D' * 4 := by
      rw [show (4 : Nat) = 2 * 2 from rfl]; ac_rfl
    have e4 : D * (A * C * 4) * D' = D * A * D' * 4 * C := by ac_rfl
    have q4 : D * A * D' * 4 ≤ D * A * D' * 4 * C := Nat.le_mul_of_pos_right _ p5
    omega

theorem sqrt2 : ∀ n a b : Nat, a ≤ n → a * a = 2 * (b * b) → a = 0
  | 0, a, b, h, _ => by omega
  | n + 1, a, b, h, e => by
    have h1 : a % 2 = 0 := by
      rcases Nat.mod_two_eq_zero_or_one a with h | h
      · exact h
      · have := Nat.mul_mod a a 2
        rw [h, e] at this
        omega
    obtain ⟨c, rfl⟩ : ∃ c, a = 2 * c := ⟨a / 2, by omega⟩
    have e2 : b * b = 2 * (c * c) := by
      have : 2 * c * (2 * c) = 2 * (2 * (c * c)) := by ac_rfl
      omega
    have h2 : b % 2 = 0 := by
      rcases Nat.mod_two_eq_zero_or_one b with h | h
      · exact h
      · have := Nat.mul_mod b b 2
        rw [h, e2] at this
        omega
    obtain ⟨d, rfl⟩ : ∃ d, b = 2 * d := ⟨b / 2, by omega⟩
    have e3 : c * c = 2 * (d * d) := by
      have : 2 * d * (2 * d) = 2 * (2 * (d * d)) := by ac_rfl
      omega
    have := sqrt2 n c d (by omega) e3
    omega
theorem no_tie (x y j : Nat) (hx : 0 < x) : x ^ 24 ≠ 2 * (y ^ 24 * 4 ^ j) := fun e => by
  have e1 : x ^ 24 = x ^ 12 * x ^ 12 := by rw [← Nat.pow_add]
  have e2 : y ^ 24 * 4 ^ j = (y ^ 12 * 2 ^ j) * (y ^ 12 * 2 ^ j) := by
    rw [show (24 : Nat) = 12 + 12 from rfl, Nat.pow_add, show (4 : Nat) = 2 * 2 from rfl, Nat.mul_pow]; ac_rfl
  rw [e1, e2] at e
  have := sqrt2 _ _ _ (Nat.le_refl _) e
  have hp : 0 < x ^ 12 := Nat.pow_pos hx
  omega

/-- What the loops keep: a shift of what is left, and n, are a shift of the quotient asked for. -/
def ShiftInv (N D num den : Nat) (n : Int) : Prop := ∀ t, IsShift num den t → IsShift N D (t + n)
theorem ShiftInv.start (N D : Nat) : ShiftInv N D N D 0 := fun t h => by rwa [Int.add_zero]
theorem ShiftInv.up {N D num den : Nat} {n : Int} (h : ShiftInv N D num den n) : ShiftInv N D (2 * num) den (n - 12) := fun t k => by
  have := h _ k.num2
  rwa [show t + (n - 12) = t - 12 + n by omega]
theorem ShiftInv.down {N D num den : Nat} {n : Int} (h : ShiftInv N D num den n) : ShiftInv N D num (2 * den) (n + 12) := fun t k => by
  have := h _ k.den2
  rwa [show t + (n + 12) = t + 12 + n by omega]
/-- Where the count ends. -/
theorem count_end {num den j : Nat} (hd : 0 < den) (h1 : den ≤ num) (hj : j = 0 ∨ 2 * (den ^ 24 * 4 ^ (j - 1)) < num ^ 24) (he : num ^ 24 ≤ 2 * (den ^ 24 * 4 ^ j)) : IsShift num den j := by
  have hnt := no_tie num den j (by omega)
  refine .mk j 0 (by omega) ?_ (by rw [Nat.pow_zero, Nat.mul_one]; omega)
  rw [Nat.pow_zero, Nat.mul_one]
  rcases hj with rfl | hj
  · have : den ^ 24 ≤ num ^ 24 := Nat.pow_le_pow_left h1 24
    have hp : 0 < den ^ 24 := Nat.pow_pos hd
    rw [Nat.pow_zero, Nat.mul_one]; omega
  · rcases Nat.eq_zero_or_pos j with rfl | hj0
    · have : den ^ 24 ≤ num ^ 24 := Nat.pow_le_pow_left h1 24
      have hp : 0 < den ^ 24 := Nat.pow_pos hd
      rw [Nat.pow_zero, Nat.mul_one]; omega
    · obtain ⟨i, rfl⟩ : ∃ i, j = i + 1 := ⟨j - 1, by omega⟩
      rw [Nat.add_sub_cancel] at hj
      have e : den ^ 24 * 4 ^ (i + 1) = den ^ 24 * 4 ^ i * 4 := by rw [show (4 : Nat) ^ (i + 1) = 4 ^ i * 4 from Nat.pow_succ ..]; ac_rfl
      rw [e]; omega
theorem count_bound {num den : Nat} (h : num < 2 * den) : num ^ 24 ≤ 2 * (den ^ 24 * 4 ^ 12) := by
  have h1 : num ^ 24 ≤ (2 * den) ^ 24 := Nat.pow_le_pow_left (Nat.le_of_lt h) 24
  rw [p24] at h1
  omega

end Go.Proofs.YtiokjnfhopdleaaGreatDoor
