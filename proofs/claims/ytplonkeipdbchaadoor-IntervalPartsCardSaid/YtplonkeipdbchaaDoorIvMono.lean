/- Plain laws of sizes: the greater one has no fewer cents; the comparison of sums and differences. Conditions: exponents up to 6000 over denominators up to 240. -/
import Derived.Test.YtplonkeipdbchaaDoorIvSgn
namespace Go.Proofs.YtplonkeipdbchaaDoor
open Go.RowKit

theorem lo_eq (x y z : Int) : loZ x y z = lgZ x y z + (if 0 < y then 0 else y) + (if 0 < z then 0 else z) := rfl
theorem neg_part {y E v D : Int} (hE : 1 ≤ E) (hD : 1 ≤ D) (h : y * E = v * D) : E * (if 0 < y then 0 else y) = D * (if 0 < v then 0 else v) := by
  by_cases h1 : 0 < y
  · have h2 : 0 < v := by
      rcases Int.lt_or_le 0 v with k | k
      · exact k
      · have a := Int.mul_pos h1 (show 0 < E by omega)
        have b := Int.mul_nonneg (show 0 ≤ -v by omega) (show 0 ≤ D by omega)
        rw [Int.neg_mul] at b
        omega
    rw [if_pos h1, if_pos h2, Int.mul_zero, Int.mul_zero]
  · have h2 : ¬ 0 < v := fun k => by
      have a := Int.mul_pos k (show 0 < D by omega)
      have b := Int.mul_nonneg (show 0 ≤ -y by omega) (show 0 ≤ E by omega)
      rw [Int.neg_mul] at b
      omega
    rw [if_neg h1, if_neg h2, Int.mul_comm E, Int.mul_comm D, h]
theorem mul_small {a n A B : Int} (ha : 1 ≤ a ∧ a ≤ A) (hn : -B ≤ n ∧ n ≤ 0) (hB : 0 ≤ B) : -(A * B) ≤ a * n ∧ a * n ≤ 0 := by
  constructor
  · have h1 := Int.mul_le_mul_of_nonneg_left hn.1 (show 0 ≤ a by omega)
    have h2 := Int.mul_le_mul_of_nonneg_right ha.2 hB
    rw [Int.mul_neg] at h1
    omega
  · have h1 := Int.mul_le_mul_of_nonneg_left hn.2 (show 0 ≤ a by omega)
    rw [Int.mul_zero] at h1
    omega
theorem mul_range {a n A B : Int} (ha : 1 ≤ a ∧ a ≤ A) (hn : -B ≤ n ∧ n ≤ B) (hB : 0 ≤ B) : -(A * B) ≤ n * a ∧ n * a ≤ A * B := by
  have h2 := Int.mul_le_mul_of_nonneg_right ha.2 hB
  have h1 := Int.mul_le_mul_of_nonneg_right hn.1 (show 0 ≤ a by omega)
  have h3 := Int.mul_le_mul_of_nonneg_right hn.2 (show 0 ≤ a by omega)
  rw [Int.neg_mul, Int.mul_comm B a] at h1
  rw [Int.mul_comm B a] at h3
  omega
theorem lo_le {x y z D u v t E : Int} (hy : -6000 ≤ y ∧ y ≤ 6000) (hz : -6000 ≤ z ∧ z ≤ 6000) (hD : 1 ≤ D ∧ D ≤ 240)
    (hv : -6000 ≤ v ∧ v ≤ 6000) (ht : -6000 ≤ t ∧ t ≤ 6000) (hE : 1 ≤ E ∧ E ≤ 240) (h : 0 ≤ E * lgZ x y z - D * lgZ u v t) : D * loZ u v t ≤ E * loZ x y z := by
  have hl := lg_sub x y z u v t E D
  rw [lo_eq, lo_eq, Int.mul_add, Int.mul_add, Int.mul_add, Int.mul_add]
  by_cases h0 : x * E - u * D = 0 ∧ y * E - v * D = 0 ∧ z * E - t * D = 0
  · obtain ⟨a, b, c⟩ := h0
    rw [a, b, c, show lgZ 0 0 0 = 0 by decide] at hl
    have e1 := neg_part hE.1 hD.1 (show y * E = v * D by omega)
    have e2 := neg_part hE.1 hD.1 (show z * E = t * D by omega)
    omega
  · have r1 := mul_range hE hy (by decide)
    have r2 := mul_range hD hv (by decide)
    have r3 := mul_range hE hz (by decide)
    have r4 := mul_range hD ht (by decide)
    have hf := lg_far (x := x * E - u * D) (y := y * E - v * D) (z := z * E - t * D) ⟨by omega, by omega⟩ ⟨by omega, by omega⟩ h0
    have n1 := mul_small (n := if 0 < y then 0 else y) hE (show -6000 ≤ (if 0 < y then 0 else y) ∧ (if 0 < y then 0 else y) ≤ 0 by split <;> omega) (by decide)
    have n2 := mul_small (n := if 0 < z then 0 else z) hE (show -6000 ≤ (if 0 < z then 0 else z) ∧ (if 0 < z then 0 else z) ≤ 0 by split <;> omega) (by decide)
    have n3 := mul_small (n := if 0 < v then 0 else v) hD (show -6000 ≤ (if 0 < v then 0 else v) ∧ (if 0 < v then 0 else v) ≤ 0 by split <;> omega) (by decide)
    have n4 := mul_small (n := if 0 < t then 0 else t) hD (show -6000 ≤ (if 0 < t then 0 else t) ∧ (if 0 < t then 0 else t) ≤ 0 by split <;> omega) (by decide)
    omega
theorem ediv_cross {p q r s : Int} (hq : 0 < q) (hs : 0 < s) (h : p * s ≤ r * q) : p / q ≤ r / s := by
  rw [Int.le_ediv_iff_mul_le hs]
  have h1 := Int.ediv_mul_le p (show q ≠ 0 by omega)
  have h2 := Int.mul_le_mul_of_nonneg_right h1 (show 0 ≤ s by omega)
  have h3 : (p / q * s) * q ≤ r * q := by
    rw [Int.mul_right_comm]
    exact Int.le_trans h2 h
  exact Int.le_of_mul_le_mul_right h3 hq
theorem cen_le {x y z D u v t E : Int} (hD : 1 ≤ D) (hE : 1 ≤ E) (h : D * loZ u v t ≤ E * loZ x y z) : cenZ u v t E ≤ cenZ x y z D := by
  have hU : 0 < lgU := by decide
  have h1 : 0 < E * lgU := Int.mul_pos (by omega) hU
  have h2 : 0 < D * lgU := Int.mul_pos (by omega) hU
  unfold cenZ
  refine ediv_cross (by omega) (by omega) ?_
  obtain ⟨p, hp⟩ : ∃ p, p = loZ u v t := ⟨_, rfl⟩
  obtain ⟨q, hq⟩ : ∃ p, p = loZ x y z := ⟨_, rfl⟩
  obtain ⟨U, hU'⟩ : ∃ p, p = lgU := ⟨_, rfl⟩
  rw [← hp, ← hq] at h ⊢
  rw [← hU'] at hU ⊢
  have e1 : (p * 240000 + E * U) * (D * U * 2) = (D * p) * (480000 * U) + (E * U) * (D * U * 2) := by
    rw [Int.add_mul]
    congr 1
    rw [show (480000 : Int) = 240000 * 2 by decide]
    simp only [Int.mul_comm, Int.mul_left_comm, Int.mul_assoc]
  have e2 : (q * 240000 + D * U) * (E * U * 2) = (E * q) * (480000 * U) + (E * U) * (D * U * 2) := by
    rw [Int.add_mul]
    congr 1
    · rw [show (480000 : Int) = 240000 * 2 by decide]
      simp only [Int.mul_comm, Int.mul_left_comm, Int.mul_assoc]
    · simp only [Int.mul_left_comm, Int.mul_assoc]
  rw [e1, e2]
  exact Int.add_le_add_right (Int.mul_le_mul_of_nonneg_right h (by omega)) _
/-- Of two sizes the greater one has no fewer cents. -/
theorem cents_mono {x y z D u v t E : Int} (hy : -6000 ≤ y ∧ y ≤ 6000) (hz : -6000 ≤ z ∧ z ≤ 6000) (hD : 1 ≤ D ∧ D ≤ 240)
    (hv : -6000 ≤ v ∧ v ≤ 6000) (ht : -6000 ≤ t ∧ t ≤ 6000) (hE : 1 ≤ E ∧ E ≤ 240) :
    (sgn (E * lgZ x y z - D * lgZ u v t) < 0 ∨ cenZ u v t E ≤ cenZ x y z D) ∧ (0 < sgn (E * lgZ x y z - D * lgZ u v t) ∨ cenZ x y z D ≤ cenZ u v t E) := by
  obtain ⟨m, hm⟩ : ∃ m, m = E * lgZ x y z - D * lgZ u v t := ⟨_, rfl⟩
  have h1 := fun (h : 0 ≤ m) => cen_le (x := x) (y := y) (z := z) (u := u) (v := v) (t := t) hD.1 hE.1 (lo_le hy hz hD hv ht hE (hm ▸ h))
  have h2 := fun (h : m ≤ 0) => cen_le (x := u) (y := v) (z := t) (u := x) (v := y) (t := z) hE.1 hD.1 (lo_le hv ht hE hy hz hD (by omega))
  rw [← hm]
  rcases Int.lt_trichotomy m 0 with h | h | h
  · exact ⟨.inl (by rw [sgn_neg h]; decide), .inr (h2 (by omega))⟩
  · exact ⟨.inr (h1 (by omega)), .inr (h2 (by omega))⟩
  · exact ⟨.inr (h1 (by omega)), .inl (by rw [sgn_pos h]; decide)⟩
/-- Numbers p = x / D and q = u / E with p - q = r: the signs. -/
theorem sgn_diff {x y z D u v t E r s k G : Int} (hD : 1 ≤ D) (hE : 1 ≤ E) (hG : 1 ≤ G)
    (h0 : r * (D * E) = (x * E - u * D) * G) (h1 : s * (D * E) = (y * E - v * D) * G) (h2 : k * (D * E) = (z * E - t * D) * G) : sgn (lgZ r s k) = sgn (E * lgZ x y z - D * lgZ u v t) := by
  have hDE : 0 < D * E := Int.mul_pos (by omega) (by omega)
  have hl := lg_sub x y z u v t E D
  have e1 := lg_mul (D * E) r s k
  have e2 := lg_mul G (x * E - u * D) (y * E - v * D) (z * E - t * D)
  rw [Int.mul_comm (D * E) r, h0, Int.mul_comm (D * E) s, h1, Int.mul_comm (D * E) k, h2] at e1
  rw [Int.mul_comm G, Int.mul_comm G, Int.mul_comm G] at e2
  rw [← sgn_mul_pos hDE (k := lgZ r s k), ← e1, e2, sgn_mul_pos (by omega), hl]
end Go.Proofs.YtplonkeipdbchaaDoor
