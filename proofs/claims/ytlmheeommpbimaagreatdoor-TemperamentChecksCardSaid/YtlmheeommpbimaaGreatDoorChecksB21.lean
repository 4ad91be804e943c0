/- Part 21 of 39 of the proof of the law: contracts of the functions that it reaches, and plain facts. Conditions: those that each contract names. -/
import Derived.WalkKit
namespace Go.Proofs.YtlmheeommpbimaaGreatDoor
theorem lin_bd {k v H B : Int} (hv : -H ≤ v ∧ v ≤ H) (hk : -B ≤ k ∧ k ≤ B) (hB : 0 ≤ B) : -(H * B) ≤ k * v ∧ k * v ≤ H * B := by
  have h : (k * v).natAbs ≤ B.natAbs * H.natAbs := by rw [Int.natAbs_mul]; exact Nat.mul_le_mul (by omega) (by omega)
  have h2 : ((B.natAbs * H.natAbs : Nat) : Int) = H * B := by rw [Int.natCast_mul, Int.mul_comm]; congr 1 <;> omega
  omega
theorem form_zero {U c p1 p2 p3 B1 B2 B3 : Int} (hU : 0 < U) (he : U * c = p1 + p2 + p3) (h1 : -B1 ≤ p1 ∧ p1 ≤ B1) (h2 : -B2 ≤ p2 ∧ p2 ≤ B2) (h3 : -B3 ≤ p3 ∧ p3 ≤ B3) (hB : B1 + B2 + B3 < U) : c = 0 := by
  rcases Int.lt_trichotomy c 0 with h | h | h
  · have : U * c ≤ U * (-1) := Int.mul_le_mul_of_nonneg_left (by omega) (by omega)
    omega
  · exact h
  · have : U * 1 ≤ U * c := Int.mul_le_mul_of_nonneg_left (by omega) (by omega)
    omega
theorem form_at {x y z M U T F H Mx : Int} (a b d : Int) (hM : M = x * U + y * T + z * F) (hU : 0 < U) (hMx : -Mx ≤ M ∧ M ≤ Mx) (hy : -H ≤ y ∧ y ≤ H) (hz : -H ≤ z ∧ z ≤ H)
    (B1 B2 B3 : Int) (h1 : -B1 ≤ a ∧ a ≤ B1) (h2 : -B2 ≤ b * U - a * T ∧ b * U - a * T ≤ B2) (h3 : -B3 ≤ d * U - a * F ∧ d * U - a * F ≤ B3) (hB1 : 0 ≤ B1) (hB2 : 0 ≤ B2) (hB3 : 0 ≤ B3) (hB : Mx * B1 + H * B2 + H * B3 < U) : a * x + b * y + d * z = 0 := by
  refine form_zero (p1 := a * M) (p2 := (b * U - a * T) * y) (p3 := (d * U - a * F) * z) hU ?_ (lin_bd hMx h1 hB1) (lin_bd hy h2 hB2) (lin_bd hz h3 hB3) hB
  subst hM
  simp only [Int.mul_add, Int.sub_mul]
  have e1 : U * (a * x) = a * (x * U) := by rw [Int.mul_left_comm, Int.mul_comm U x]
  have e2 : U * (b * y) = b * U * y := by rw [Int.mul_left_comm, Int.mul_assoc]
  have e3 : U * (d * z) = d * U * z := by rw [Int.mul_left_comm, Int.mul_assoc]
  have e4 : a * (y * T) = a * T * y := by rw [Int.mul_comm y T, Int.mul_assoc]
  have e5 : a * (z * F) = a * F * z := by rw [Int.mul_comm z F, Int.mul_assoc]
  omega
theorem comb_zero {a1 b1 d1 a2 b2 d2 a3 b3 d3 x y z : Int} (k1 k2 k3 : Int) (h1 : a1 * x + b1 * y + d1 * z = 0) (h2 : a2 * x + b2 * y + d2 * z = 0) (h3 : a3 * x + b3 * y + d3 * z = 0)
    (p q r : Int) (hp : k1 * a1 + k2 * a2 + k3 * a3 = p) (hq : k1 * b1 + k2 * b2 + k3 * b3 = q) (hr : k1 * d1 + k2 * d2 + k3 * d3 = r) : p * x + q * y + r * z = 0 := by
  have e : p * x + q * y + r * z = k1 * (a1 * x + b1 * y + d1 * z) + k2 * (a2 * x + b2 * y + d2 * z) + k3 * (a3 * x + b3 * y + d3 * z) := by
    rw [← hp, ← hq, ← hr]
    simp only [Int.mul_add, Int.add_mul, Int.mul_assoc]
    omega
  rw [e, h1, h2, h3]; simp
theorem log_far {x y z : Int} (hy : -3000000 ≤ y ∧ y ≤ 3000000) (hz : -3000000 ≤ z ∧ z ≤ 3000000)
    (h : -10000000 ≤ x * 1000000000000000000000000000000 + y * 1584962500721156181453738943947 + z * 2321928094887362347870319429489 ∧
     x * 1000000000000000000000000000000 + y * 1584962500721156181453738943947 + z * 2321928094887362347870319429489 ≤ 10000000) : x = 0 ∧ y = 0 ∧ z = 0 := by
  have a := form_at (-715273134191524) (-1133681095466857) (-1660812785797438) rfl (by decide) h hy hz 10000000000000000 20000000000000000000000 20000000000000000000000 (by decide) (by decide) (by decide) (by decide) (by decide) (by decide) (by decide)
  have b := form_at (-3314907793508033) (-5254004546058542) (-7696977537707377) rfl (by decide) h hy hz 10000000000000000 20000000000000000000000 20000000000000000000000 (by decide) (by decide) (by decide) (by decide) (by decide) (by decide) (by decide)
  have c := form_at (3942766806221849) (6249137536949748) (9154821018955828) rfl (by decide) h hy hz 10000000000000000 20000000000000000000000 20000000000000000000000 (by decide) (by decide) (by decide) (by decide) (by decide) (by decide) (by decide)
  have hx := comb_zero (-222191780) (7846972) (-33711307) a b c 1 0 0 (by decide) (by decide) (by decide)
  have hy2 := comb_zero (84286251) (-44179010) (-21853094) a b c 0 1 0 (by decide) (by decide) (by decide)
  have hz2 := comb_zero (38158474) (26777359) (29435727) a b c 0 0 1 (by decide) (by decide) (by decide)
  clear a b c h
  omega
structure Lo (b m e n : Nat) : Prop where
  le : m * 2 ^ e ≤ b ^ n
structure Up (b m e n : Nat) : Prop where
  le : b ^ n ≤ m * 2 ^ e
end Go.Proofs.YtlmheeommpbimaaGreatDoor
