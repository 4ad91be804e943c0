/- Plain law: the odd parts of the harmonic of feet are the odd parts of denominator and numerator of the feet. Conditions: right feet. -/
import Derived.Test.YtiokjnfhopdleaaGreatDoorLaw
namespace Go.Proofs.YtiokjnfhopdleaaGreatDoor

theorem oddOf_pos {n : Nat} (h : 0 < n) : 0 < oddOf n := by
  induction n using Nat.strongRecOn with
  | _ n ih =>
    by_cases e : n % 2 = 0
    · rw [oddOf_even (by omega) e]; exact ih (n / 2) (by omega) (by omega)
    · rw [oddOf_odd (by omega)]; exact h
theorem oddOf_two (n : Nat) (h : 0 < n) : oddOf (2 * n) = oddOf n := by
  rw [oddOf_even (by omega) (by omega)]; congr 1; omega
theorem oddOf_pow (k n : Nat) (h : 0 < n) : oddOf (2 ^ k * n) = oddOf n := by
  induction k with
  | zero => simp
  | succ k ih =>
    have hp : 0 < 2 ^ k * n := Nat.mul_pos (Nat.pow_pos (by decide)) h
    rw [show 2 ^ (k + 1) * n = 2 * (2 ^ k * n) by rw [Nat.pow_succ]; ac_rfl, oddOf_two _ hp, ih]
theorem dvd8 {g : Nat} (h : g ∣ 8) : ∃ k, g = 2 ^ k := by
  have hle : g ≤ 8 := Nat.le_of_dvd (by decide) h
  have h0 : g ≠ 0 := fun e => by subst e; simp at h
  obtain ⟨q, hq⟩ := h
  have : g = 1 ∨ g = 2 ∨ g = 3 ∨ g = 4 ∨ g = 5 ∨ g = 6 ∨ g = 7 ∨ g = 8 := by omega
  rcases this with rfl | rfl | rfl | rfl | rfl | rfl | rfl | rfl
  · exact ⟨0, rfl⟩
  · exact ⟨1, rfl⟩
  · omega
  · exact ⟨2, rfl⟩
  · omega
  · omega
  · omega
  · exact ⟨3, rfl⟩

/-- The harmonic 8 d / n in lowest terms. -/
theorem harmonic (n d : Nat) (h : PR n d) : ∃ A B : Nat, lowN (8 * (d : Int)) n = A ∧ lowD (8 * (d : Int)) n = B ∧ 0 < A ∧ 0 < B ∧ A ≤ 8 * d ∧ B ≤ n ∧ oddOf A = oddOf d ∧ oddOf B = oddOf n := by
  obtain ⟨⟨hd0, _, _, _, hg⟩, hn0, _, _⟩ := h
  have hd : 0 < d := by omega
  have hn : 0 < n := by omega
  rw [Int.natAbs_natCast, Int.natAbs_natCast] at hg
  obtain ⟨g, hgd⟩ : ∃ g, g = Nat.gcd (8 * d) n := ⟨_, rfl⟩
  have hgn : g ∣ n := by rw [hgd]; exact Nat.gcd_dvd_right _ _
  have hg8d : g ∣ 8 * d := by rw [hgd]; exact Nat.gcd_dvd_left _ _
  have hcop : Nat.Coprime g d := by
    have h1 : Nat.gcd g d ∣ Nat.gcd n d := Nat.dvd_gcd (Nat.dvd_trans (Nat.gcd_dvd_left _ _) hgn) (Nat.gcd_dvd_right _ _)
    rw [hg] at h1
    exact Nat.dvd_one.1 h1
  have hg8 : g ∣ 8 := hcop.dvd_of_dvd_mul_right hg8d
  obtain ⟨k, hk⟩ := dvd8 hg8
  have hg0 : 0 < g := by rw [hk]; exact Nat.pow_pos (by decide)
  obtain ⟨A, hA⟩ := hg8d
  obtain ⟨B, hB⟩ := hgn
  have hA0 : 0 < A := by rcases Nat.eq_zero_or_pos A with e | e; · subst e; omega
                         · exact e
  have hB0 : 0 < B := by rcases Nat.eq_zero_or_pos B with e | e; · subst e; omega
                         · exact e
  have hnat : Nat.gcd (8 * (d : Int)).natAbs (n : Int).natAbs = g := by
    rw [hgd]; congr 1
  have oA : oddOf A = oddOf d := by
    have h1 : oddOf (2 ^ k * A) = oddOf A := oddOf_pow k A hA0
    have h2 : oddOf (2 ^ 3 * d) = oddOf d := oddOf_pow 3 d hd
    rw [← hk, ← hA] at h1
    rw [← h1, ← h2]
  have oB : oddOf B = oddOf n := by
    have h1 : oddOf (2 ^ k * B) = oddOf B := oddOf_pow k B hB0
    rw [← hk, ← hB] at h1
    rw [← h1]
  refine ⟨A, B, ?_, ?_, hA0, hB0, ?_, ?_, oA, oB⟩
  · unfold lowN
    rw [hnat, show (8 * (d : Int)) = (g : Int) * (A : Int) by have : ((8 * d : Nat) : Int) = ((g * A : Nat) : Int) := by rw [hA]
                                                              simpa using this, Int.mul_comm, Int.mul_tdiv_cancel _ (by omega)]
  · unfold lowD
    rw [hnat, show (n : Int) = (g : Int) * (B : Int) by have : ((n : Nat) : Int) = ((g * B : Nat) : Int) := by rw [hB]
                                                        simpa using this, Int.mul_comm, Int.mul_tdiv_cancel _ (by omega)]
  · rw [hA]; exact Nat.le_mul_of_pos_left _ hg0
  · rw [hB]; exact Nat.le_mul_of_pos_left _ hg0

/-- The ways of the law's switch. -/
theorem classes_cases (n d : Nat) (hn : 0 < n) : (oddOf n ≠ 1 ∧ cls n d = sOther) ∨ (oddOf n = 1 ∧ oddOf d = 1 ∧ cls n d = sUnison) ∨ (oddOf n = 1 ∧ oddOf d = 3 ∧ cls n d = sQuint) ∨
    (oddOf n = 1 ∧ oddOf d = 5 ∧ cls n d = sTierce) ∨ (oddOf n = 1 ∧ oddOf d = 7 ∧ cls n d = sSept) ∨ (oddOf n = 1 ∧ oddOf d ≠ 1 ∧ oddOf d ≠ 3 ∧ oddOf d ≠ 5 ∧ oddOf d ≠ 7 ∧ cls n d = sOther) := by
  have hp := oddOf_pos hn
  unfold cls clsName
  by_cases h1 : oddOf n = 1
  · rw [if_neg (by omega)]
    by_cases k1 : oddOf d = 1
    · rw [if_pos k1]; exact .inr (.inl ⟨h1, k1, rfl⟩)
    · rw [if_neg k1]
      by_cases k3 : oddOf d = 3
      · rw [if_pos k3]; exact .inr (.inr (.inl ⟨h1, k3, rfl⟩))
      · rw [if_neg k3]
        by_cases k5 : oddOf d = 5
        · rw [if_pos k5]; exact .inr (.inr (.inr (.inl ⟨h1, k5, rfl⟩)))
        · rw [if_neg k5]
          by_cases k7 : oddOf d = 7
          · rw [if_pos k7]; exact .inr (.inr (.inr (.inr (.inl ⟨h1, k7, rfl⟩))))
          · rw [if_neg k7]; exact .inr (.inr (.inr (.inr (.inr ⟨h1, k1, k3, k5, k7, rfl⟩))))
  · rw [if_pos (by omega)]; exact .inl ⟨h1, rfl⟩

end Go.Proofs.YtiokjnfhopdleaaGreatDoor
