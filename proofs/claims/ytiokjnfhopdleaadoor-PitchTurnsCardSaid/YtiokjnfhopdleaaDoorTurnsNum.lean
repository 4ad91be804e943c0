/- Plain laws of half of the feet: its odd parts are those of the feet, its shift is 12 more. Conditions: right feet. -/
import Derived.Test.YtiokjnfhopdleaaDoorClassesNum
namespace Go.Proofs.YtiokjnfhopdleaaDoor

theorem dvd2 {g : Nat} (h : g ∣ 2) : g = 1 ∨ g = 2 := by
  have hle : g ≤ 2 := Nat.le_of_dvd (by decide) h
  have h0 : g ≠ 0 := fun e => by subst e; simp at h
  omega

/-- Half of the feet in lowest terms. -/
theorem half_num (n d : Nat) (h : PR n d) : ∃ A B g : Nat, lowN n (2 * (d : Int)) = A ∧ lowD n (2 * (d : Int)) = B ∧ 0 < g ∧ n = g * A ∧ 2 * d = g * B ∧ oddOf A = oddOf n ∧ oddOf B = oddOf d := by
  obtain ⟨⟨hd0, _, _, _, hg⟩, hn0, _, _⟩ := h
  have hd : 0 < d := by omega
  have hn : 0 < n := by omega
  rw [Int.natAbs_natCast, Int.natAbs_natCast] at hg
  obtain ⟨g, hgd⟩ : ∃ g, g = Nat.gcd n (2 * d) := ⟨_, rfl⟩
  have hgn : g ∣ n := by rw [hgd]; exact Nat.gcd_dvd_left _ _
  have hg2d : g ∣ 2 * d := by rw [hgd]; exact Nat.gcd_dvd_right _ _
  have hcop : Nat.Coprime g d := by
    have h1 : Nat.gcd g d ∣ Nat.gcd n d := Nat.dvd_gcd (Nat.dvd_trans (Nat.gcd_dvd_left _ _) hgn) (Nat.gcd_dvd_right _ _)
    rw [hg] at h1
    exact Nat.dvd_one.1 h1
  have hg2 : g ∣ 2 := hcop.dvd_of_dvd_mul_right hg2d
  have hnat : Nat.gcd (n : Int).natAbs (2 * (d : Int)).natAbs = g := by
    rw [hgd]; congr 1
  have hcases := dvd2 hg2
  clear hgd
  obtain ⟨A, hA⟩ := hgn
  obtain ⟨B, hB⟩ := hg2d
  have hg0 : 0 < g := by omega
  have hA0 : 0 < A := by rcases Nat.eq_zero_or_pos A with e | e; · subst e; omega
                         · exact e
  have hB0 : 0 < B := by rcases Nat.eq_zero_or_pos B with e | e; · subst e; omega
                         · exact e
  refine ⟨A, B, g, ?_, ?_, hg0, hA, hB, ?_, ?_⟩
  · unfold lowN
    rw [hnat, hA, Int.natCast_mul, Int.mul_tdiv_cancel_left _ (by omega)]
  · unfold lowD
    rw [hnat, show (2 * (d : Int)) = ((g * B : Nat) : Int) by omega, Int.natCast_mul, Int.mul_tdiv_cancel_left _ (by omega)]
  · rw [hA]
    rcases hcases with e | e
    · rw [e, Nat.one_mul]
    · rw [e, oddOf_two _ hA0]
  · have h1 : oddOf (2 * d) = oddOf d := oddOf_two _ hd
    rw [← h1, hB]
    rcases hcases with e | e
    · rw [e, Nat.one_mul]
    · rw [e, oddOf_two _ hB0]

/-- The shift of half of the feet is 12 more. -/
theorem half_shift {an ad bn bd A B g : Nat} {x z : Int} (hg : 0 < g) (h1 : an = g * A) (h2 : 2 * ad = g * B) (hx : IsShift (bn * ad) (bd * an) x) (hz : IsShift (bn * B) (bd * A) z) : z = x + 12 := by
  have hz' := (IsShift.scale hg).2 hz
  rw [show g * (bn * B) = 2 * (bn * ad) by rw [show g * (bn * B) = bn * (g * B) by ac_rfl, ← h2]; ac_rfl, show g * (bd * A) = bd * an by rw [h1]; ac_rfl] at hz'
  exact hz'.unique hx.num2'

/-- Feet that sound higher have no lesser shift. -/
theorem turn_mono {an ad bn bd : Nat} {u v : Int} (ha : 0 < an) (hb : 0 < bn) (hu : IsShift (8 * ad) (1 * an) u) (hv : IsShift (8 * bd) (1 * bn) v) (h : an * bd ≤ bn * ad) : v ≤ u :=
  hv.mono hu (by omega) (by omega) (by
    rw [Nat.one_mul, Nat.one_mul, show 8 * bd * an = 8 * (an * bd) by ac_rfl, show 8 * ad * bn = 8 * (bn * ad) by ac_rfl]
    omega)

theorem cls_half {n d A B : Nat} (h1 : oddOf A = oddOf n) (h2 : oddOf B = oddOf d) : cls A B = cls n d := by
  unfold cls; rw [h1, h2]

/-- The order of two fractions, as Compare says it. -/
theorem order_cases (an ad bn bd : Nat) : ∃ m : Int, sgnI ((bn : Int) * ad - an * bd) = m ∧ ((m = 1 ∧ an * bd ≤ bn * ad) ∨ (m = -1 ∧ bn * ad ≤ an * bd) ∨ m = 0) := by
  refine ⟨_, rfl, ?_⟩
  obtain ⟨p, hp⟩ : ∃ p, p = bn * ad := ⟨_, rfl⟩
  obtain ⟨q, hq⟩ : ∃ q, q = an * bd := ⟨_, rfl⟩
  rw [show (bn : Int) * ad = (p : Int) by rw [hp]; simp, show (an : Int) * bd = (q : Int) by rw [hq]; simp, ← hp, ← hq]
  unfold sgnI
  split
  · right; left; exact ⟨rfl, by omega⟩
  · split
    · right; right; rfl
    · left; exact ⟨rfl, by omega⟩

end Go.Proofs.YtiokjnfhopdleaaDoor
