/- Part 27 of 46 of the proof of the law: contracts of the functions that it reaches, and plain facts. Conditions: those that each contract names. -/
import Derived.Test.YtlmheeommpbimaaGreatDoorIntB22
import Derived.Test.YtlmheeommpbimaaGreatDoorIntB25
import Derived.Test.YtlmheeommpbimaaGreatDoorIntB26
import Derived.Test.YtlmheeommpbimaaGreatDoorIntB06
namespace Go.Proofs.YtlmheeommpbimaaGreatDoor
section
open Go.RowKit
theorem pow_side {U T F T' F' : Nat} (h3 : Lo 3 1 T U) (h5 : Lo 5 1 F U) (k3 : Up 3 1 T' U) (k5 : Up 5 1 F' U) {a b c a' b' c' : Nat}
  (h : a' * U + b' * T' + c' * F' < a * U + b * T + c * F) : 2 ^ a' * 3 ^ b' * 5 ^ c' < 2 ^ a * 3 ^ b * 5 ^ c := by
 have l3 : 2 ^ T ≤ 3 ^ U := by have := h3.le; omega
 have l5 : 2 ^ F ≤ 5 ^ U := by have := h5.le; omega
 have u3 : 3 ^ U ≤ 2 ^ T' := by have := k3.le; omega
 have u5 : 5 ^ U ≤ 2 ^ F' := by have := k5.le; omega
 have e : ∀ i j k : Nat, (2 ^ i * 3 ^ j * 5 ^ k) ^ U = 2 ^ (i * U) * (3 ^ U) ^ j * (5 ^ U) ^ k := fun i j k => by
  rw [Nat.mul_pow, Nat.mul_pow, ← Nat.pow_mul, ← Nat.pow_mul, ← Nat.pow_mul, ← Nat.pow_mul, ← Nat.pow_mul, Nat.mul_comm j U, Nat.mul_comm k U]
 have f : ∀ i j k S R : Nat, 2 ^ (i * U) * (2 ^ S) ^ j * (2 ^ R) ^ k = 2 ^ (i * U + j * S + k * R) := fun i j k S R => by
  rw [← Nat.pow_mul, ← Nat.pow_mul, ← Nat.pow_add, ← Nat.pow_add, Nat.mul_comm j S, Nat.mul_comm k R]
 have hlow : 2 ^ (a * U + b * T + c * F) ≤ (2 ^ a * 3 ^ b * 5 ^ c) ^ U := by
  rw [e, ← f]
  exact Nat.mul_le_mul (Nat.mul_le_mul_left _ (Nat.pow_le_pow_left l3 _)) (Nat.pow_le_pow_left l5 _)
 have hup : (2 ^ a' * 3 ^ b' * 5 ^ c') ^ U ≤ 2 ^ (a' * U + b' * T' + c' * F') := by
  rw [e, ← f]
  exact Nat.mul_le_mul (Nat.mul_le_mul_left _ (Nat.pow_le_pow_left u3 _)) (Nat.pow_le_pow_left u5 _)
 have hs : 2 ^ (a' * U + b' * T' + c' * F') < 2 ^ (a * U + b * T + c * F) := Nat.pow_lt_pow_right (by decide) h
 rcases Nat.lt_or_ge (2 ^ a' * 3 ^ b' * 5 ^ c') (2 ^ a * 3 ^ b * 5 ^ c) with k | k
 ·exact k
 ·have := Nat.pow_le_pow_left k U
  omega
def rsU (a b c : Nat) : Nat → Int
 | 0 => 1
 | 1 => 1 * 2 ^ a
 | 2 => 1 * 2 ^ a * 3 ^ b
 | _ => 1 * 2 ^ a * 3 ^ b * 5 ^ c
theorem rsU_nat (a b c : Nat) : rsU a b c 3 = ((2 ^ a * 3 ^ b * 5 ^ c : Nat) : Int) := by
 show (1 : Int) * 2 ^ a * 3 ^ b * 5 ^ c = _
 rw [Int.one_mul]
 push_cast
 rfl
theorem pow_sgn {x y z : Int} (hx : -20000 ≤ x ∧ x ≤ 20000) (hy : -20000 ≤ y ∧ y ≤ 20000) (hz : -20000 ≤ z ∧ z ≤ 20000) :
  sgn (rsU x.toNat y.toNat z.toNat 3 - rsU (-x).toNat (-y).toNat (-z).toNat 3) = sgn (lgZ x y z) := by
 rw [rsU_nat, rsU_nat]
 by_cases h0 : x = 0 ∧ y = 0 ∧ z = 0
 ·obtain ⟨rfl, rfl, rfl⟩ := h0
  rw [show lgZ 0 0 0 = 0 by decide]
  rfl
 ·have hf := lg_far (x := x) ⟨by omega, by omega⟩ ⟨by omega, by omega⟩ h0
  rw [lg_eq] at hf ⊢
  unfold lgU lgT lgF at hf ⊢
  rcases hf with hf | hf
  ·have h := pow_side three_lo five_lo three_up five_up (a := (-x).toNat) (b := (-y).toNat) (c := (-z).toNat) (a' := x.toNat) (b' := y.toNat) (c' := z.toNat) (by omega)
   rw [sgn_neg (by omega), sgn_neg (by omega)]
  ·have h := pow_side three_lo five_lo three_up five_up (a := x.toNat) (b := y.toNat) (c := z.toNat) (a' := (-x).toNat) (b' := (-y).toNat) (c' := (-z).toNat) (by omega)
   rw [sgn_pos (by omega), sgn_pos (by omega)]
theorem rsU_digits (a b c k : Nat) (ha : a ≤ 20000) (hb : b ≤ 20000) (hc : c ≤ 20000) : Lib.nDigits (rsU a b c k).natAbs ≤ 60001 := by
 obtain ⟨E, hE⟩ : ∃ E : Nat, E = 60001 := ⟨_, rfl⟩
 rw [← hE]
 have p2 : 2 ^ a ≤ 10 ^ a := Nat.pow_le_pow_left (by decide) _
 have p3 : 3 ^ b ≤ 10 ^ b := Nat.pow_le_pow_left (by decide) _
 have p5 : 5 ^ c ≤ 10 ^ c := Nat.pow_le_pow_left (by decide) _
 have hb2 : ∀ n : Nat, n ≤ 60000 → 10 ^ n < 10 ^ E := fun n hn => Nat.pow_lt_pow_right (by decide) (by omega)
 refine nDigits_le _ E (by omega) ?_
 match k with
 | 0 => exact Nat.lt_of_le_of_lt (Nat.one_le_two_pow (n := 0)) (Nat.lt_of_le_of_lt (by show 2 ^ 0 ≤ 10 ^ 0; decide) (hb2 0 (by omega)))
 | 1 =>
  have e : (rsU a b c 1).natAbs = 2 ^ a := by show ((1 : Int) * 2 ^ a).natAbs = _; rw [Int.one_mul, Int.natAbs_pow]; rfl
  rw [e]; exact Nat.lt_of_le_of_lt p2 (hb2 a (by omega))
 | 2 =>
  have e : (rsU a b c 2).natAbs = 2 ^ a * 3 ^ b := by show ((1 : Int) * 2 ^ a * 3 ^ b).natAbs = _; rw [Int.one_mul, Int.natAbs_mul, Int.natAbs_pow, Int.natAbs_pow]; rfl
  rw [e]
  refine Nat.lt_of_le_of_lt (Nat.mul_le_mul p2 p3) ?_
  rw [← Nat.pow_add]
  exact hb2 _ (by omega)
 | n + 3 =>
  have e : (rsU a b c (n + 3)).natAbs = 2 ^ a * 3 ^ b * 5 ^ c := by show ((1 : Int) * 2 ^ a * 3 ^ b * 5 ^ c).natAbs = _; rw [Int.one_mul, Int.natAbs_mul, Int.natAbs_mul, Int.natAbs_pow, Int.natAbs_pow, Int.natAbs_pow]; rfl
  rw [e]
  refine Nat.lt_of_le_of_lt (Nat.mul_le_mul (Nat.mul_le_mul p2 p3) p5) ?_
  rw [← Nat.pow_add, ← Nat.pow_add]
  exact hb2 _ (by omega)
theorem nd1 {q : Int} (h : q.natAbs < 10 ^ 1) : Lib.nDigits q.natAbs ≤ 1 := nDigits_le _ _ (by decide) h
theorem pow2_digits (q : Int) (n : Nat) (hq : Lib.nDigits q.natAbs ≤ 1) (hn : n ≤ 20000) : Lib.nDigits (q ^ n).natAbs ≤ 20001 := by
 have := pow_digits q n
 have h2 := Nat.mul_le_mul_left n hq
 omega
theorem rsU_s0 (a b c : Nat) : rsU a b c (0 + 1) = rsU a b c 0 * 2 ^ a := rfl
theorem rsU_s1 (a b c : Nat) : rsU a b c (1 + 1) = rsU a b c 1 * 3 ^ b := rfl
theorem rsU_s2 (a b c : Nat) : rsU a b c (2 + 1) = rsU a b c 2 * 5 ^ c := rfl
theorem rsU_z0 {a : Nat} (b c : Nat) (h : a = 0) : rsU a b c (0 + 1) = rsU a b c 0 := by rw [rsU_s0, h, Int.pow_zero, Int.mul_one]
theorem rsU_z1 (a : Nat) {b : Nat} (c : Nat) (h : b = 0) : rsU a b c (1 + 1) = rsU a b c 1 := by rw [rsU_s1, h, Int.pow_zero, Int.mul_one]
theorem rsU_z2 (a b : Nat) {c : Nat} (h : c = 0) : rsU a b c (2 + 1) = rsU a b c 2 := by rw [rsU_s2, h, Int.pow_zero, Int.mul_one]
def RgRel (w : World) (g6 : Nat) (x y z D : Int) (a b c a' b' c' : Nat) (u v i : Value) (W : World) : Prop :=
 ∃ k : Nat, k ≤ 3 ∧ i = .int .i64 (k : Int) ∧ u = .string (dec (rsU a b c k)) ∧ v = .string (dec (rsU a' b' c' k)) ∧ Hp w [(w.heap.size, 45, [.int .i64 x, .int .i64 y, .int .i64 z, .int .i64 D]), (g6, 136, [.string ⟨#[50]⟩, .string ⟨#[51]⟩, .string ⟨#[53]⟩])] W
set_option maxRecDepth 100000 in
set_option maxHeartbeats 8000000 in
theorem refSign_any (x y z D : Int) (w : World) (ht : Tab w) (hx : -20000 ≤ x ∧ x ≤ 20000) (hy : -20000 ≤ y ∧ y ≤ 20000) (hz : -20000 ≤ z ∧ z ≤ 20000) :
  Calls Tryz.prog 76 #[ovv x y z D] w fun e w' => e = .returned (.int .i64 (sgn (lgZ x y z))) ∧ Below w.heap.size w w' := by
 obtain ⟨G1, hG1⟩ : ∃ g, g = Nat.gcd x.natAbs y.natAbs := ⟨_, rfl⟩
 obtain ⟨G, hG⟩ : ∃ g, g = Nat.gcd G1 z.natAbs := ⟨_, rfl⟩
 have hd1 := fun W => divisor_any x y W (by omega) (by omega) (by omega) (by omega)
 rw [← hG1] at hd1
 have b1 : G1 ≤ 20000 := by
  rcases Nat.eq_zero_or_pos x.natAbs with h | h
  ·rw [hG1, h, Nat.gcd_zero_left]; omega
  ·have := Nat.gcd_le_left y.natAbs h
   omega
 have b2 : G ≤ 20000 := by
  rcases Nat.eq_zero_or_pos G1 with h | h
  ·rw [hG, h, Nat.gcd_zero_left]; omega
  ·have := Nat.gcd_le_left z.natAbs h
   omega
 have hd2 := fun W => divisor_any (G1 : Int) z W (by omega) (by omega) (by omega) (by omega)
 rw [Int.natAbs_natCast, ← hG] at hd2
 have HD1 := Lib.hid hd1
 have HD2 := Lib.hid hd2
 have hM0 : Hp w [(w.heap.size, 45, [.int .i64 x, .int .i64 y, .int .i64 z, .int .i64 D])] (w.alloc (.cells #[.int .i64 x, .int .i64 y, .int .i64 z, .int .i64 D] 45)) := (Hp.start w).new 45 [.int .i64 x, .int .i64 y, .int .i64 z, .int .i64 D]
 have HM0 := Lib.hid hM0
 have HT := Lib.hid ht
 obtain ⟨W0, hW0⟩ : ∃ W, W = w.alloc (.cells #[.int .i64 x, .int .i64 y, .int .i64 z, .int .i64 D] 45) := ⟨_, rfl⟩
 by_cases hz0 : G = 0
 ·have hs : sgn (lgZ x y z) = 0 := by
   have g1 : G1 = 0 := by rw [hG] at hz0; exact Nat.eq_zero_of_gcd_eq_zero_left hz0
   have g2 : z.natAbs = 0 := by rw [hG] at hz0; exact Nat.eq_zero_of_gcd_eq_zero_right hz0
   have g3 : x.natAbs = 0 := by rw [hG1] at g1; exact Nat.eq_zero_of_gcd_eq_zero_left g1
   have g4 : y.natAbs = 0 := by rw [hG1] at g1; exact Nat.eq_zero_of_gcd_eq_zero_right g1
   obtain rfl : x = 0 := by omega
   obtain rfl : y = 0 := by omega
   obtain rfl : z = 0 := by omega
   decide
  rw [hs]
  have hgz : ((G : Int) == 0) = true := by rw [hz0]; rfl
  clear hd1 hd2 hM0 ht hx hy hz b1 b2 hG hG1 hs hz0
  go_enter Tryz.func76, Tryz.ntmps76
  go_upto_region 1 with fail
  rw [← hW0] at HM0 ⊢
  clear hW0
  obtain ⟨e0, e1, e2, e3⟩ := four_of (HM0.out.at_ 0 rfl)
  go_quiet ((go_at_call 68; first | (go_at_call_of 68 x; exact Calls.quiet_of (HD1.out _)) | exact Calls.quiet_of (HD2.out _)))
  have HM1 := Lib.hid (HM0.out.drewN nq)
  clear HM0 e0 e1 e2 e3
  go_wp2
  go_ret
  exact ⟨rfl, HM1.out.below⟩
 ·have hgp : 0 < G := by omega
  have hgz : ((G : Int) == 0) = false := by rw [beq_eq_false_iff_ne]; omega
  have dv : G ∣ x.natAbs ∧ G ∣ y.natAbs ∧ G ∣ z.natAbs := by
   have h1 : G ∣ G1 := by rw [hG]; exact Nat.gcd_dvd_left _ _
   have h2 : G ∣ z.natAbs := by rw [hG]; exact Nat.gcd_dvd_right _ _
   exact ⟨Nat.dvd_trans h1 (by rw [hG1]; exact Nat.gcd_dvd_left _ _), Nat.dvd_trans h1 (by rw [hG1]; exact Nat.gcd_dvd_right _ _), h2⟩
  obtain ⟨n0, hn0⟩ : ∃ n, n = x.tdiv (G : Int) := ⟨_, rfl⟩
  have tn0 : (G : Int) * n0 = x := by rw [hn0]; exact tdiv_exact dv.1
  have ln0 : -20000 ≤ n0 ∧ n0 ≤ 20000 := by
   have : n0.natAbs ≤ x.natAbs := by rw [hn0, Int.natAbs_tdiv]; exact Nat.div_le_self _ _
   omega
  have wn0 : IntKind.i64.wrap (x.tdiv (G : Int)) = n0 := by rw [← hn0]; exact IntWalk.i64_in _ (by omega)
  obtain ⟨n1, hn1⟩ : ∃ n, n = y.tdiv (G : Int) := ⟨_, rfl⟩
  have tn1 : (G : Int) * n1 = y := by rw [hn1]; exact tdiv_exact dv.2.1
  have ln1 : -20000 ≤ n1 ∧ n1 ≤ 20000 := by
   have : n1.natAbs ≤ y.natAbs := by rw [hn1, Int.natAbs_tdiv]; exact Nat.div_le_self _ _
   omega
  have wn1 : IntKind.i64.wrap (y.tdiv (G : Int)) = n1 := by rw [← hn1]; exact IntWalk.i64_in _ (by omega)
  obtain ⟨n2, hn2⟩ : ∃ n, n = z.tdiv (G : Int) := ⟨_, rfl⟩
  have tn2 : (G : Int) * n2 = z := by rw [hn2]; exact tdiv_exact dv.2.2
  have ln2 : -20000 ≤ n2 ∧ n2 ≤ 20000 := by
   have : n2.natAbs ≤ z.natAbs := by rw [hn2, Int.natAbs_tdiv]; exact Nat.div_le_self _ _
   omega
  have wn2 : IntKind.i64.wrap (z.tdiv (G : Int)) = n2 := by rw [← hn2]; exact IntWalk.i64_in _ (by omega)
  have hs : sgn (lgZ x y z) = sgn (rsU n0.toNat n1.toNat n2.toNat 3 - rsU (-n0).toNat (-n1).toNat (-n2).toNat 3) := by
   rw [pow_sgn ln0 ln1 ln2, ← tn0, ← tn1, ← tn2, lg_mul, sgn_mul_pos (by omega)]
  rw [hs]
  obtain ⟨a, ha⟩ : ∃ a, a = n0.toNat := ⟨_, rfl⟩
  obtain ⟨b, hb⟩ : ∃ a, a = n1.toNat := ⟨_, rfl⟩
  obtain ⟨c, hc⟩ : ∃ a, a = n2.toNat := ⟨_, rfl⟩
  obtain ⟨a', ha'⟩ : ∃ a, a = (-n0).toNat := ⟨_, rfl⟩
  obtain ⟨b', hb'⟩ : ∃ a, a = (-n1).toNat := ⟨_, rfl⟩
  obtain ⟨c', hc'⟩ : ∃ a, a = (-n2).toNat := ⟨_, rfl⟩
  rw [← ha, ← hb, ← hc, ← ha', ← hb', ← hc']
  have kU := fun k => rsU_digits a b c k (by omega) (by omega) (by omega)
  have kV := fun k => rsU_digits a' b' c' k (by omega) (by omega) (by omega)
  have hone : dec 1 = ⟨#[49]⟩ := dec_one
  have hcmp := fun W h => refcompare_any (rsU a b c 3) (rsU a' b' c' 3) W h (by have := kU 3; omega) (by have := kV 3; omega)
  have S0 := Lib.hid (show (0 < n0 ∧ n0 = (a : Int) ∧ a' = 0) ∨ (n0 < 0 ∧ IntKind.i64.wrap (-n0) = (a' : Int) ∧ a = 0) ∨ (n0 = 0 ∧ a = 0 ∧ a' = 0) by
   rcases Int.lt_trichotomy n0 0 with h | h | h
   ·exact .inr (.inl ⟨h, by rw [IntWalk.i64_in _ (by omega)]; omega, by omega⟩)
   ·exact .inr (.inr ⟨h, by omega, by omega⟩)
   ·exact .inl ⟨h, by omega, by omega⟩)
  have P0 := Lib.hid (fun W h => refpower_any 2 a W h (by omega) (Nat.le_trans (Nat.mul_le_mul_left a (nd1 (q := 2) (by decide))) (by omega)))
  have Q0 := Lib.hid (fun W h => refpower_any 2 a' W h (by omega) (Nat.le_trans (Nat.mul_le_mul_left a' (nd1 (q := 2) (by decide))) (by omega)))
  have M0 := Lib.hid (fun W h => refmul_any (rsU a b c 0) (2 ^ a) W h (by have := kU 0; omega) (by have := pow2_digits 2 a (nd1 (by decide)) (by omega); omega))
  have N0 := Lib.hid (fun W h => refmul_any (rsU a' b' c' 0) (2 ^ a') W h (by have := kV 0; omega) (by have := pow2_digits 2 a' (nd1 (by decide)) (by omega); omega))
  have D0 := Lib.hid (show dec 2 = ⟨#[50]⟩ by decide +kernel)
  have WN0 := Lib.hid wn0
  have S1 := Lib.hid (show (0 < n1 ∧ n1 = (b : Int) ∧ b' = 0) ∨ (n1 < 0 ∧ IntKind.i64.wrap (-n1) = (b' : Int) ∧ b = 0) ∨ (n1 = 0 ∧ b = 0 ∧ b' = 0) by
   rcases Int.lt_trichotomy n1 0 with h | h | h
   ·exact .inr (.inl ⟨h, by rw [IntWalk.i64_in _ (by omega)]; omega, by omega⟩)
   ·exact .inr (.inr ⟨h, by omega, by omega⟩)
   ·exact .inl ⟨h, by omega, by omega⟩)
  have P1 := Lib.hid (fun W h => refpower_any 3 b W h (by omega) (Nat.le_trans (Nat.mul_le_mul_left b (nd1 (q := 3) (by decide))) (by omega)))
  have Q1 := Lib.hid (fun W h => refpower_any 3 b' W h (by omega) (Nat.le_trans (Nat.mul_le_mul_left b' (nd1 (q := 3) (by decide))) (by omega)))
  have M1 := Lib.hid (fun W h => refmul_any (rsU a b c 1) (3 ^ b) W h (by have := kU 1; omega) (by have := pow2_digits 3 b (nd1 (by decide)) (by omega); omega))
  have N1 := Lib.hid (fun W h => refmul_any (rsU a' b' c' 1) (3 ^ b') W h (by have := kV 1; omega) (by have := pow2_digits 3 b' (nd1 (by decide)) (by omega); omega))
  have D1 := Lib.hid (show dec 3 = ⟨#[51]⟩ by decide +kernel)
  have WN1 := Lib.hid wn1
  have S2 := Lib.hid (show (0 < n2 ∧ n2 = (c : Int) ∧ c' = 0) ∨ (n2 < 0 ∧ IntKind.i64.wrap (-n2) = (c' : Int) ∧ c = 0) ∨ (n2 = 0 ∧ c = 0 ∧ c' = 0) by
   rcases Int.lt_trichotomy n2 0 with h | h | h
   ·exact .inr (.inl ⟨h, by rw [IntWalk.i64_in _ (by omega)]; omega, by omega⟩)
   ·exact .inr (.inr ⟨h, by omega, by omega⟩)
   ·exact .inl ⟨h, by omega, by omega⟩)
  have P2 := Lib.hid (fun W h => refpower_any 5 c W h (by omega) (Nat.le_trans (Nat.mul_le_mul_left c (nd1 (q := 5) (by decide))) (by omega)))
  have Q2 := Lib.hid (fun W h => refpower_any 5 c' W h (by omega) (Nat.le_trans (Nat.mul_le_mul_left c' (nd1 (q := 5) (by decide))) (by omega)))
  have M2 := Lib.hid (fun W h => refmul_any (rsU a b c 2) (5 ^ c) W h (by have := kU 2; omega) (by have := pow2_digits 5 c (nd1 (by decide)) (by omega); omega))
  have N2 := Lib.hid (fun W h => refmul_any (rsU a' b' c' 2) (5 ^ c') W h (by have := kV 2; omega) (by have := pow2_digits 5 c' (nd1 (by decide)) (by omega); omega))
  have D2 := Lib.hid (show dec 5 = ⟨#[53]⟩ by decide +kernel)
  have WN2 := Lib.hid wn2
  have HC := Lib.hid hcmp
  have HGZ := Lib.hid (And.intro hgz (show (G : Int) ≠ 0 by omega))
  clear hd1 hd2 hM0 ht hx hy hz b1 b2 hG hG1 hs hz0 hgp hgz dv hn0 hn1 hn2 tn0 tn1 tn2 ln0 ln1 ln2 wn0 wn1 wn2 ha hb hc ha' hb' hc' kU kV hcmp
  go_enter Tryz.func76, Tryz.ntmps76
  go_upto_region 1 with fail
  rw [← hW0] at HM0 ⊢
  clear hW0
  obtain ⟨e0, e1, e2, e3⟩ := four_of (HM0.out.at_ 0 rfl)
  go_quiet ((go_at_call 68; first | (go_at_call_of 68 x; exact Calls.quiet_of (HD1.out _)) | exact Calls.quiet_of (HD2.out _)))
  obtain ⟨W1, hW1⟩ : ∃ W, W = W0.drewN nq := ⟨_, rfl⟩
  have HM1 : Hid (Hp w [(w.heap.size, 45, [.int .i64 x, .int .i64 y, .int .i64 z, .int .i64 D])] W1) := Lib.hid (by rw [hW1]; exact HM0.out.drewN nq)
  rw [← hW1]
  obtain ⟨hgz, hgz2⟩ := HGZ.out
  clear HM0 e0 e1 e2 e3 hW1 HD1 HD2
  have HM2 := Lib.hid (HM1.out.new 136 [.string ⟨#[50]⟩, .string ⟨#[51]⟩, .string ⟨#[53]⟩])
  obtain ⟨g6, hg6⟩ : ∃ g, g = W1.heap.size := ⟨_, rfl⟩
  go_wp2_with fail
  rw [← hg6]
  go_loopw [4, 5, 7] (fun u v i wr => RgRel w g6 x y z D a b c a' b' c' u v i wr) (fun _ _ i _ => 3 - (intOf i).toNat)
  case atStart =>
   have HRS := HM2.out
   rw [← hg6] at HRS
   exact ⟨0, by omega, rfl, by show Value.string _ = .string (dec 1); rw [hone], by show Value.string _ = .string (dec 1); rw [hone], HRS⟩
  case round =>
   clear HM2 HM1 hg6 hone
   obtain ⟨k, hk, rfl, rfl, rfl, hm⟩ := hrel
   have HM := Lib.hid hm
   clear hm
   by_cases hlt : k < 3
   ·rcases (show k = 0 ∨ k = 1 ∨ k = 2 by omega) with rfl | rfl | rfl
    ·obtain ⟨e0, e1, e2, e3⟩ := four_of (HM.out.at_ 0 rfl)
     obtain ⟨s0, s1, s2⟩ := three_of (HM.out.at_ 1 rfl)
     have hwn := WN0.out
     rcases S0.out with ⟨h1, h2, h3'⟩ | ⟨h1, h2, h3'⟩ | ⟨h1, h2', h3'⟩
     ·have H3 := Lib.hid h3'
      have h4 : ¬ (n0 < 0) := by omega
      rw [h2] at hwn h1 h4
      clear h3' h2
      have hp := P0.out
      rw [D0.out] at hp
      have HPW := Lib.hid hp
      clear hp
      go_wp2_with fail
      refine (HPW.out _ (HT.out.below HM.out.below)).mono ?_
      rintro e w5 ⟨rfl, hb⟩
      have HM5 := Lib.hid (HM.out.step hb)
      clear hb HM e0 e1 e2 e3 s0 s1 s2
      go_wp2_with fail
      refine (M0.out _ (HT.out.below HM5.out.below)).mono ?_
      rintro e w6 ⟨rfl, hb⟩
      have HM6 := Lib.hid (HM5.out.step hb)
      clear hb HM5
      have HRL := Lib.hid (show RgRel w g6 x y z D a b c a' b' c' (.string (dec (rsU a b c 0 * 2 ^ a))) (.string (dec (rsU a' b' c' 0))) (.int .i64 ((0 + 1 : Nat) : Int)) w6 from ⟨0 + 1, by omega, rfl, by rw [rsU_s0 _ _ _], by rw [rsU_z0 _ _ H3.out], HM6.out⟩)
      go_wp2_with fail
      go_roundw
      case rel => exact HRL.out
      case measure => simp [intOf]
     ·have H3 := Lib.hid h3'
      have h4 : ¬ (0 < n0) := by omega
      clear h3'
      have hp := Q0.out
      rw [D0.out] at hp
      have HPW := Lib.hid hp
      clear hp
      go_wp2_with fail
      refine (HPW.out _ (HT.out.below HM.out.below)).mono ?_
      rintro e w5 ⟨rfl, hb⟩
      have HM5 := Lib.hid (HM.out.step hb)
      clear hb HM e0 e1 e2 e3 s0 s1 s2
      go_wp2_with fail
      refine (N0.out _ (HT.out.below HM5.out.below)).mono ?_
      rintro e w6 ⟨rfl, hb⟩
      have HM6 := Lib.hid (HM5.out.step hb)
      clear hb HM5
      have HRL := Lib.hid (show RgRel w g6 x y z D a b c a' b' c' (.string (dec (rsU a b c 0))) (.string (dec (rsU a' b' c' 0 * 2 ^ a'))) (.int .i64 ((0 + 1 : Nat) : Int)) w6 from ⟨0 + 1, by omega, rfl, by rw [rsU_z0 _ _ H3.out], by rw [rsU_s0 _ _ _], HM6.out⟩)
      go_wp2_with fail
      go_roundw
      case rel => exact HRL.out
      case measure => simp [intOf]
     ·have H2 := Lib.hid h2'
      have H3 := Lib.hid h3'
      have h4 : ¬ (0 < n0) := by omega
      have h5 : ¬ (n0 < 0) := by omega
      clear h2' h3'
      have HRL := Lib.hid (show RgRel w g6 x y z D a b c a' b' c' (.string (dec (rsU a b c 0))) (.string (dec (rsU a' b' c' 0))) (.int .i64 ((0 + 1 : Nat) : Int)) wr from ⟨0 + 1, by omega, rfl, by rw [rsU_z0 _ _ H2.out], by rw [rsU_z0 _ _ H3.out], HM.out⟩)
      go_wp2_with fail
      go_roundw
      case rel => exact HRL.out
      case measure => simp [intOf]
    ·obtain ⟨e0, e1, e2, e3⟩ := four_of (HM.out.at_ 0 rfl)
     obtain ⟨s0, s1, s2⟩ := three_of (HM.out.at_ 1 rfl)
     have hwn := WN1.out
     rcases S1.out with ⟨h1, h2, h3'⟩ | ⟨h1, h2, h3'⟩ | ⟨h1, h2', h3'⟩
     ·have H3 := Lib.hid h3'
      have h4 : ¬ (n1 < 0) := by omega
      rw [h2] at hwn h1 h4
      clear h3' h2
      have hp := P1.out
      rw [D1.out] at hp
      have HPW := Lib.hid hp
      clear hp
      go_wp2_with fail
      refine (HPW.out _ (HT.out.below HM.out.below)).mono ?_
      rintro e w5 ⟨rfl, hb⟩
      have HM5 := Lib.hid (HM.out.step hb)
      clear hb HM e0 e1 e2 e3 s0 s1 s2
      go_wp2_with fail
      refine (M1.out _ (HT.out.below HM5.out.below)).mono ?_
      rintro e w6 ⟨rfl, hb⟩
      have HM6 := Lib.hid (HM5.out.step hb)
      clear hb HM5
      have HRL := Lib.hid (show RgRel w g6 x y z D a b c a' b' c' (.string (dec (rsU a b c 1 * 3 ^ b))) (.string (dec (rsU a' b' c' 1))) (.int .i64 ((1 + 1 : Nat) : Int)) w6 from ⟨1 + 1, by omega, rfl, by rw [rsU_s1 _ _ _], by rw [rsU_z1 _ _ H3.out], HM6.out⟩)
      go_wp2_with fail
      go_roundw
      case rel => exact HRL.out
      case measure => simp [intOf]
     ·have H3 := Lib.hid h3'
      have h4 : ¬ (0 < n1) := by omega
      clear h3'
      have hp := Q1.out
      rw [D1.out] at hp
      have HPW := Lib.hid hp
      clear hp
      go_wp2_with fail
      refine (HPW.out _ (HT.out.below HM.out.below)).mono ?_
      rintro e w5 ⟨rfl, hb⟩
      have HM5 := Lib.hid (HM.out.step hb)
      clear hb HM e0 e1 e2 e3 s0 s1 s2
      go_wp2_with fail
      refine (N1.out _ (HT.out.below HM5.out.below)).mono ?_
      rintro e w6 ⟨rfl, hb⟩
      have HM6 := Lib.hid (HM5.out.step hb)
      clear hb HM5
      have HRL := Lib.hid (show RgRel w g6 x y z D a b c a' b' c' (.string (dec (rsU a b c 1))) (.string (dec (rsU a' b' c' 1 * 3 ^ b'))) (.int .i64 ((1 + 1 : Nat) : Int)) w6 from ⟨1 + 1, by omega, rfl, by rw [rsU_z1 _ _ H3.out], by rw [rsU_s1 _ _ _], HM6.out⟩)
      go_wp2_with fail
      go_roundw
      case rel => exact HRL.out
      case measure => simp [intOf]
     ·have H2 := Lib.hid h2'
      have H3 := Lib.hid h3'
      have h4 : ¬ (0 < n1) := by omega
      have h5 : ¬ (n1 < 0) := by omega
      clear h2' h3'
      have HRL := Lib.hid (show RgRel w g6 x y z D a b c a' b' c' (.string (dec (rsU a b c 1))) (.string (dec (rsU a' b' c' 1))) (.int .i64 ((1 + 1 : Nat) : Int)) wr from ⟨1 + 1, by omega, rfl, by rw [rsU_z1 _ _ H2.out], by rw [rsU_z1 _ _ H3.out], HM.out⟩)
      go_wp2_with fail
      go_roundw
      case rel => exact HRL.out
      case measure => simp [intOf]
    ·obtain ⟨e0, e1, e2, e3⟩ := four_of (HM.out.at_ 0 rfl)
     obtain ⟨s0, s1, s2⟩ := three_of (HM.out.at_ 1 rfl)
     have hwn := WN2.out
     rcases S2.out with ⟨h1, h2, h3'⟩ | ⟨h1, h2, h3'⟩ | ⟨h1, h2', h3'⟩
     ·have H3 := Lib.hid h3'
      have h4 : ¬ (n2 < 0) := by omega
      rw [h2] at hwn h1 h4
      clear h3' h2
      have hp := P2.out
      rw [D2.out] at hp
      have HPW := Lib.hid hp
      clear hp
      go_wp2_with fail
      refine (HPW.out _ (HT.out.below HM.out.below)).mono ?_
      rintro e w5 ⟨rfl, hb⟩
      have HM5 := Lib.hid (HM.out.step hb)
      clear hb HM e0 e1 e2 e3 s0 s1 s2
      go_wp2_with fail
      refine (M2.out _ (HT.out.below HM5.out.below)).mono ?_
      rintro e w6 ⟨rfl, hb⟩
      have HM6 := Lib.hid (HM5.out.step hb)
      clear hb HM5
      have HRL := Lib.hid (show RgRel w g6 x y z D a b c a' b' c' (.string (dec (rsU a b c 2 * 5 ^ c))) (.string (dec (rsU a' b' c' 2))) (.int .i64 ((2 + 1 : Nat) : Int)) w6 from ⟨2 + 1, by omega, rfl, by rw [rsU_s2 _ _ _], by rw [rsU_z2 _ _ H3.out], HM6.out⟩)
      go_wp2_with fail
      go_roundw
      case rel => exact HRL.out
      case measure => simp [intOf]
     ·have H3 := Lib.hid h3'
      have h4 : ¬ (0 < n2) := by omega
      clear h3'
      have hp := Q2.out
      rw [D2.out] at hp
      have HPW := Lib.hid hp
      clear hp
      go_wp2_with fail
      refine (HPW.out _ (HT.out.below HM.out.below)).mono ?_
      rintro e w5 ⟨rfl, hb⟩
      have HM5 := Lib.hid (HM.out.step hb)
      clear hb HM e0 e1 e2 e3 s0 s1 s2
      go_wp2_with fail
      refine (N2.out _ (HT.out.below HM5.out.below)).mono ?_
      rintro e w6 ⟨rfl, hb⟩
      have HM6 := Lib.hid (HM5.out.step hb)
      clear hb HM5
      have HRL := Lib.hid (show RgRel w g6 x y z D a b c a' b' c' (.string (dec (rsU a b c 2))) (.string (dec (rsU a' b' c' 2 * 5 ^ c'))) (.int .i64 ((2 + 1 : Nat) : Int)) w6 from ⟨2 + 1, by omega, rfl, by rw [rsU_z2 _ _ H3.out], by rw [rsU_s2 _ _ _], HM6.out⟩)
      go_wp2_with fail
      go_roundw
      case rel => exact HRL.out
      case measure => simp [intOf]
     ·have H2 := Lib.hid h2'
      have H3 := Lib.hid h3'
      have h4 : ¬ (0 < n2) := by omega
      have h5 : ¬ (n2 < 0) := by omega
      clear h2' h3'
      have HRL := Lib.hid (show RgRel w g6 x y z D a b c a' b' c' (.string (dec (rsU a b c 2))) (.string (dec (rsU a' b' c' 2))) (.int .i64 ((2 + 1 : Nat) : Int)) wr from ⟨2 + 1, by omega, rfl, by rw [rsU_z2 _ _ H2.out], by rw [rsU_z2 _ _ H3.out], HM.out⟩)
      go_wp2_with fail
      go_roundw
      case rel => exact HRL.out
      case measure => simp [intOf]
   ·obtain rfl : k = 3 := by omega
    go_wp2_with fail
    refine (HC.out _ (HT.out.below HM.out.below)).mono ?_
    rintro e w7 ⟨rfl, hb⟩
    have HM7 := Lib.hid (HM.out.step hb)
    clear hb HM
    go_wp2
    go_ret
    exact ⟨rfl, HM7.out.below⟩
end
section
open Go.RowKit
def shB (x y z : Int) : Bool := decide ((-900 ≤ x ∧ x ≤ 900) ∧ (-900 ≤ y ∧ y ≤ 900) ∧ (-900 ≤ z ∧ z ≤ 900))
def ShRel (w : World) (x y z D : Int) (i : Value) (W : World) : Prop :=
 ∃ k : Nat, k ≤ 3 ∧ i = .int .i64 (k : Int) ∧ ((0 < k → -900 ≤ x ∧ x ≤ 900) ∧ (1 < k → -900 ≤ y ∧ y ≤ 900) ∧ (2 < k → -900 ≤ z ∧ z ≤ 900)) ∧ Hp w [(w.heap.size, 45, [.int .i64 x, .int .i64 y, .int .i64 z, .int .i64 D])] W
end
end Go.Proofs.YtlmheeommpbimaaGreatDoor
