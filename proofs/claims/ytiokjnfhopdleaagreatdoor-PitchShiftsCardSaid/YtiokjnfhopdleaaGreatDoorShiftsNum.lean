/- Plain law: what the quotient of two products in lowest terms says of their odd parts and of their order. Conditions: both are greater than 0. -/
import Derived.Test.YtiokjnfhopdleaaGreatDoorClassesNum
namespace Go.Proofs.YtiokjnfhopdleaaGreatDoor

theorem oddOf_mul (a b : Nat) (ha : 0 < a) (hb : 0 < b) : oddOf (a * b) = oddOf a * oddOf b := by
  induction a using Nat.strongRecOn with
  | _ a iha =>
    by_cases ea : a % 2 = 0
    · obtain ⟨c, rfl⟩ : ∃ c, a = 2 * c := ⟨a / 2, by omega⟩
      have hc : 0 < c := by omega
      rw [Nat.mul_assoc, oddOf_two _ (Nat.mul_pos hc hb), oddOf_two c hc]
      exact iha c (by omega) hc
    · rw [oddOf_odd (n := a) (by omega)]
      clear iha
      induction b using Nat.strongRecOn with
      | _ b ihb =>
        by_cases eb : b % 2 = 0
        · obtain ⟨c, rfl⟩ : ∃ c, b = 2 * c := ⟨b / 2, by omega⟩
          have hc : 0 < c := by omega
          rw [Nat.mul_left_comm, oddOf_two _ (Nat.mul_pos ha hc), oddOf_two c hc]
          exact ihb c (by omega) hc
        · rw [oddOf_odd (n := b) (by omega), oddOf_odd]
          have := Nat.mul_mod a b 2
          rw [show a % 2 = 1 by omega, show b % 2 = 1 by omega] at this
          exact this
theorem oddOf_dvd (n : Nat) : oddOf n ∣ n := by
  induction n using Nat.strongRecOn with
  | _ n ih =>
    by_cases h0 : n = 0
    · subst h0; exact Nat.dvd_zero _
    · by_cases e : n % 2 = 0
      · rw [oddOf_even h0 e]
        refine Nat.dvd_trans (ih (n / 2) (by omega)) ⟨2, by omega⟩
      · rw [oddOf_odd (by omega)]; exact Nat.dvd_refl _

/-- The quotient of two numbers in lowest terms. -/
theorem low_nat (N D : Nat) (hN : 0 < N) (hD : 0 < D) : ∃ A B g : Nat, lowN (N : Int) D = A ∧ lowD (N : Int) D = B ∧ 0 < A ∧ 0 < B ∧ 0 < g ∧ N = g * A ∧ D = g * B ∧ Nat.gcd A B = 1 := by
  obtain ⟨g, hgd⟩ : ∃ g, g = Nat.gcd N D := ⟨_, rfl⟩
  have hg0 : 0 < g := by rw [hgd]; exact Nat.gcd_pos_of_pos_left _ hN
  have hcop : Nat.gcd (N / g) (D / g) = 1 := by rw [hgd]; exact Nat.gcd_div_gcd_div_gcd_of_pos_left hN
  obtain ⟨A, hA⟩ : g ∣ N := by rw [hgd]; exact Nat.gcd_dvd_left _ _
  obtain ⟨B, hB⟩ : g ∣ D := by rw [hgd]; exact Nat.gcd_dvd_right _ _
  have eA : N / g = A := by rw [hA]; exact Nat.mul_div_cancel_left _ hg0
  have eB : D / g = B := by rw [hB]; exact Nat.mul_div_cancel_left _ hg0
  rw [eA, eB] at hcop
  have hA0 : 0 < A := by rcases Nat.eq_zero_or_pos A with e | e; · subst e; omega
                         · exact e
  have hB0 : 0 < B := by rcases Nat.eq_zero_or_pos B with e | e; · subst e; omega
                         · exact e
  have hnat : Nat.gcd (N : Int).natAbs (D : Int).natAbs = g := by rw [Int.natAbs_natCast, Int.natAbs_natCast, hgd]
  refine ⟨A, B, g, ?_, ?_, hA0, hB0, hg0, hA, hB, hcop⟩
  · unfold lowN
    rw [hnat, show (N : Int) = (g : Int) * (A : Int) by have : ((N : Nat) : Int) = ((g * A : Nat) : Int) := by rw [← hA]
                                                        simpa using this, Int.mul_comm, Int.mul_tdiv_cancel _ (by omega)]
  · unfold lowD
    rw [hnat, show (D : Int) = (g : Int) * (B : Int) by have : ((D : Nat) : Int) = ((g * B : Nat) : Int) := by rw [← hB]
                                                        simpa using this, Int.mul_comm, Int.mul_tdiv_cancel _ (by omega)]

theorem exact_iff {A B g : Nat} (hA : 0 < A) (hB : 0 < B) (hg : 0 < g) (hc : Nat.gcd A B = 1) : (oddOf (g * A) = oddOf (g * B)) ↔ (oddOf A = 1 ∧ oddOf B = 1) := by
  rw [oddOf_mul g A hg hA, oddOf_mul g B hg hB]
  constructor
  · intro h
    have e : oddOf A = oddOf B := Nat.eq_of_mul_eq_mul_left (oddOf_pos hg) h
    have h1 : oddOf A ∣ 1 := by rw [← hc]; exact Nat.dvd_gcd (oddOf_dvd A) (by rw [e]; exact oddOf_dvd B)
    have h2 := Nat.dvd_one.1 h1
    exact ⟨h2, by rw [← e]; exact h2⟩
  · rintro ⟨h1, h2⟩; rw [h1, h2]
theorem order_low {A B g : Nat} (hg : 0 < g) : (A = B ∧ sgnI (((g * A : Nat) : Int) - (g * B : Nat)) = 0) ∨ (A < B ∧ sgnI (((g * A : Nat) : Int) - (g * B : Nat)) = -1) ∨ (B < A ∧ sgnI (((g * A : Nat) : Int) - (g * B : Nat)) = 1) := by
  rcases Nat.lt_trichotomy A B with h | h | h
  · have := Nat.mul_lt_mul_of_pos_left h hg
    exact .inr (.inl ⟨h, sgnI_neg (by omega)⟩)
  · subst h; exact .inl ⟨rfl, by rw [Int.sub_self]; rfl⟩
  · have := Nat.mul_lt_mul_of_pos_left h hg
    exact .inr (.inr ⟨h, sgnI_pos (by omega)⟩)

end Go.Proofs.YtiokjnfhopdleaaGreatDoor
