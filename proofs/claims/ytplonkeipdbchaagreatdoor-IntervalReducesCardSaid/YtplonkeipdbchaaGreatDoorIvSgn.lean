/- Package interval: sign and Compare, whole: the bounds of the logarithms always decide. Conditions: exponents of at most 3000000 (sign); both sizes are right (Compare); the library's table of powers of ten reads as its text lays it. -/
import Derived.Test.YtplonkeipdbchaaGreatDoorIvCmp
import Derived.Test.YtplonkeipdbchaaGreatDoorLogNum
namespace Go.Proofs.YtplonkeipdbchaaGreatDoor
open Go.RowKit

theorem lg_eq (x y z : Int) : lgZ x y z = x * lgU + y * lgT + z * lgF := by
  show x * lgU + (y * lgT + (z * lgF + 0)) = _
  omega
theorem lg_far {x y z : Int} (hy : -3000000 ≤ y ∧ y ≤ 3000000) (hz : -3000000 ≤ z ∧ z ≤ 3000000) (hn : ¬ (x = 0 ∧ y = 0 ∧ z = 0)) : lgZ x y z < -10000000 ∨ 10000000 < lgZ x y z := by
  rcases Int.lt_or_le (lgZ x y z) (-10000000) with h | h
  · exact .inl h
  · rcases Int.lt_or_le 10000000 (lgZ x y z) with h' | h'
    · exact .inr h'
    · rw [lg_eq] at h h'
      exact absurd (log_far hy hz ⟨h, h'⟩) hn
theorem sgn_lo_hi {x y z : Int} (hy : -3000000 ≤ y ∧ y ≤ 3000000) (hz : -3000000 ≤ z ∧ z ≤ 3000000) (hn : ¬ (x = 0 ∧ y = 0 ∧ z = 0)) : sgn (loZ x y z) = sgn (lgZ x y z) ∧ sgn (hiZ x y z) = sgn (lgZ x y z) ∧ sgn (lgZ x y z) ≠ 0 := by
  have h := lg_far hy hz hn
  unfold loZ hiZ
  obtain ⟨m, hm⟩ : ∃ m, m = lgZ x y z := ⟨_, rfl⟩
  rw [← hm] at h ⊢
  have hs : ∀ {k : Int}, k < 0 → sgn k = -1 := fun h => sgn_neg h
  have hp : ∀ {k : Int}, 0 < k → sgn k = 1 := fun h => by unfold sgn; rw [if_neg (by omega), if_neg (by omega)]
  have b1 : -3000000 ≤ (if 0 < y then 0 else y) ∧ (if 0 < y then 0 else y) ≤ 3000000 := by split <;> omega
  have b2 : -3000000 ≤ (if 0 < z then 0 else z) ∧ (if 0 < z then 0 else z) ≤ 3000000 := by split <;> omega
  have b3 : -3000000 ≤ (if 0 < y then y else 0) ∧ (if 0 < y then y else 0) ≤ 3000000 := by split <;> omega
  have b4 : -3000000 ≤ (if 0 < z then z else 0) ∧ (if 0 < z then z else 0) ≤ 3000000 := by split <;> omega
  rcases h with h | h
  · rw [hs (show m < 0 by omega), hs (by omega), hs (by omega)]; decide
  · rw [hp (show 0 < m by omega), hp (by omega), hp (by omega)]; decide
/-- sign, whole. -/
theorem isign_all (x y z : Int) (w : World) (ht : Tab w) (hx : -3000000 ≤ x ∧ x ≤ 3000000) (hy : -3000000 ≤ y ∧ y ≤ 3000000) (hz : -3000000 ≤ z ∧ z ≤ 3000000) :
    Calls Tryz.prog 41 #[.agg #[.int .i64 x, .int .i64 y, .int .i64 z]] w fun e w' => e = .returned (.int .i64 (sgn (lgZ x y z))) ∧ Below w.heap.size w w' := by
  by_cases h : x = 0 ∧ y = 0 ∧ z = 0
  · obtain ⟨rfl, rfl, rfl⟩ := h
    rw [show sgn (lgZ 0 0 0) = 0 by decide]
    exact isign_zero w
  · obtain ⟨h1, h2, h3⟩ := sgn_lo_hi hy hz h
    exact isign_dec x y z _ w ht ⟨by omega, by omega⟩ ⟨by omega, by omega⟩ ⟨by omega, by omega⟩ h h1 h2 h3

theorem lg_mul (g x y z : Int) : lgZ (g * x) (g * y) (g * z) = g * lgZ x y z := by
  simp only [lg_eq, Int.mul_add, Int.mul_assoc]
theorem sgn_mul_pos {g k : Int} (hg : 0 < g) : sgn (g * k) = sgn k := by
  unfold sgn
  rcases Int.lt_trichotomy k 0 with h | h | h
  · have : g * k < 0 := Int.mul_neg_of_pos_of_neg hg h
    rw [if_pos this, if_pos h]
  · subst h; simp
  · have : 0 < g * k := Int.mul_pos hg h
    rw [if_neg (by omega), if_neg (by omega), if_neg (by omega), if_neg (by omega)]
theorem tdiv_exact {a : Int} {g : Nat} (h : (g : Nat) ∣ a.natAbs) : (g : Int) * a.tdiv (g : Int) = a := by
  have h1 : (g : Int) ∣ a := by rw [← Int.dvd_natAbs]; exact Int.natCast_dvd_natCast.2 h
  exact Int.mul_tdiv_cancel' h1
/-- The sign of exponents is that of the reduced ones. -/
theorem redV_sgn (a b c : Int) : sgn (lgZ (redV a b c).1 (redV a b c).2.1 (redV a b c).2.2) = sgn (lgZ a b c) := by
  unfold redV
  split
  · rename_i hg
    obtain ⟨g, hgg⟩ : ∃ g, g = Nat.gcd (Nat.gcd a.natAbs b.natAbs) c.natAbs := ⟨_, rfl⟩
    have d1 : g ∣ a.natAbs := by rw [hgg]; exact Nat.dvd_trans (Nat.gcd_dvd_left _ _) (Nat.gcd_dvd_left _ _)
    have d2 : g ∣ b.natAbs := by rw [hgg]; exact Nat.dvd_trans (Nat.gcd_dvd_left _ _) (Nat.gcd_dvd_right _ _)
    have d3 : g ∣ c.natAbs := by rw [hgg]; exact Nat.gcd_dvd_right _ _
    rw [← hgg] at hg ⊢
    dsimp only
    rw [← sgn_mul_pos (show (0 : Int) < (g : Int) by omega), ← lg_mul, tdiv_exact d1, tdiv_exact d2, tdiv_exact d3]
  · rfl
theorem redV_bd {a b c m : Int} (ha : -m ≤ a ∧ a ≤ m) (hb : -m ≤ b ∧ b ≤ m) (hc : -m ≤ c ∧ c ≤ m) : (-m ≤ (redV a b c).1 ∧ (redV a b c).1 ≤ m) ∧ (-m ≤ (redV a b c).2.1 ∧ (redV a b c).2.1 ≤ m) ∧ (-m ≤ (redV a b c).2.2 ∧ (redV a b c).2.2 ≤ m) := by
  have key : ∀ (k : Int) (g : Nat), -m ≤ k ∧ k ≤ m → -m ≤ k.tdiv (g : Int) ∧ k.tdiv (g : Int) ≤ m := fun k g hk => by
    have h : (k.tdiv (g : Int)).natAbs ≤ k.natAbs := by rw [Int.natAbs_tdiv]; exact Nat.div_le_self _ _
    omega
  unfold redV
  split
  · exact ⟨key _ _ ha, key _ _ hb, key _ _ hc⟩
  · exact ⟨ha, hb, hc⟩
theorem lg_sub (x y z u v t p q : Int) : lgZ (x * p - u * q) (y * p - v * q) (z * p - t * q) = p * lgZ x y z - q * lgZ u v t := by
  simp only [lg_eq, Int.sub_mul, Int.mul_add]
  have e : ∀ a b c : Int, a * b * c = b * (a * c) := fun a b c => by rw [Int.mul_comm a b, Int.mul_assoc]
  rw [e x p, e u q, e y p, e v q, e z p, e t q]
  omega
/-- Compare, whole: the sign of the difference over one denominator. -/
theorem icompare_all (a0 b0 a1 b1 a2 b2 c0 d0 c1 d1 c2 d2 x y z D u v t E : Int) (w : World) (ht : Tab w) (hn : ∀ q ∈ [(a0, b0), (a1, b1), (a2, b2)], Right q.1 q.2) (hm : ∀ q ∈ [(c0, d0), (c1, d1), (c2, d2)], Right q.1 q.2)
    (h1 : prt [(a0, b0), (a1, b1), (a2, b2)] = some ([x, y, z], D)) (h2 : prt [(c0, d0), (c1, d1), (c2, d2)] = some ([u, v, t], E)) :
    Calls Tryz.prog 15 #[szv a0 b0 a1 b1 a2 b2, szv c0 d0 c1 d1 c2 d2] w fun e w' => e = .returned (.tuple #[.int .i64 (sgn (E * lgZ x y z - D * lgZ u v t)), .int .i64 0]) ∧ Below w.heap.size w w' := by
  have hi : ∀ {n d : Int}, Right n d → I64 n ∧ I64 d := fun h => by
    obtain ⟨h1, h2, h3, h4, _⟩ := h
    exact ⟨⟨by omega, by omega⟩, ⟨by omega, by omega⟩⟩
  obtain ⟨i0, i1⟩ := hi (hn (a0, b0) (by simp))
  obtain ⟨i2, i3⟩ := hi (hn (a1, b1) (by simp))
  obtain ⟨i4, i5⟩ := hi (hn (a2, b2) (by simp))
  obtain ⟨i6, i7⟩ := hi (hm (c0, d0) (by simp))
  obtain ⟨i8, i9⟩ := hi (hm (c1, d1) (by simp))
  obtain ⟨j0, j1⟩ := hi (hm (c2, d2) (by simp))
  obtain ⟨⟨hD0, hD1⟩, hl1⟩ := prt_num h1 (right_mild hn)
  obtain ⟨⟨hE0, hE1⟩, hl2⟩ := prt_num h2 (right_mild hm)
  obtain ⟨g, p, q, hg, hgp, hq, hqm, hm1, hm2, ⟨hp0, hp1⟩, ⟨hq0, hq1⟩, hpd, hM⟩ := lcm_parts ⟨hD0, hD1⟩ ⟨hE0, hE1⟩
  have hbx : ∀ (l k : Int), -6000 ≤ l ∧ l ≤ 6000 → 1 ≤ k ∧ k ≤ 240 → -1440000 ≤ l * k ∧ l * k ≤ 1440000 := fun l k h h' => by
    have : (l * k).natAbs ≤ 6000 * 240 := by rw [Int.natAbs_mul]; exact Nat.mul_le_mul (by omega) (by omega)
    omega
  have bx := hbx x p (hl1 x (by simp)) ⟨hp0, hp1⟩
  have by_ := hbx y p (hl1 y (by simp)) ⟨hp0, hp1⟩
  have bz := hbx z p (hl1 z (by simp)) ⟨hp0, hp1⟩
  have bu := hbx u q (hl2 u (by simp)) ⟨hq0, hq1⟩
  have bv := hbx v q (hl2 v (by simp)) ⟨hq0, hq1⟩
  have bt := hbx t q (hl2 t (by simp)) ⟨hq0, hq1⟩
  obtain ⟨r1, r2, r3⟩ := redV_bd (m := 3000000) (a := x * p - u * q) (b := y * p - v * q) (c := z * p - t * q) (by omega) (by omega) (by omega)
  have hs := icompare_any a0 b0 a1 b1 a2 b2 c0 d0 c1 d1 c2 d2 x y z D u v t E p q _ _ _ (sgn (lgZ (redV (x * p - u * q) (y * p - v * q) (z * p - t * q)).1 (redV (x * p - u * q) (y * p - v * q) (z * p - t * q)).2.1 (redV (x * p - u * q) (y * p - v * q) (z * p - t * q)).2.2)) w ht hn hm h1 h2
    (by intro k hk; simp only [List.mem_cons, List.not_mem_nil, or_false] at hk; rcases hk with rfl | rfl | rfl | rfl | rfl | rfl | rfl | rfl | rfl | rfl | rfl | rfl <;> assumption) (by rw [hpd, hg]) (by rw [← hq, hg]) rfl (fun W hW => isign_all _ _ _ W hW r1 r2 r3)
  rw [redV_sgn, lg_sub] at hs
  have e : E * lgZ x y z - D * lgZ u v t = g * (p * lgZ x y z - q * lgZ u v t) := by
    have e1 : E = g * p := by
      rw [hpd]; refine (Int.mul_ediv_cancel' ?_).symm
      rw [hg, ← Int.dvd_natAbs]; exact Int.natCast_dvd_natCast.2 (Nat.gcd_dvd_right _ _)
    have e2 : D = g * q := by
      rw [← hq]; refine (Int.mul_ediv_cancel' ?_).symm
      rw [hg, ← Int.dvd_natAbs]; exact Int.natCast_dvd_natCast.2 (Nat.gcd_dvd_left _ _)
    rw [Int.mul_sub, ← Int.mul_assoc, ← Int.mul_assoc, ← e1, ← e2]
  rw [e, sgn_mul_pos hgp]
  exact hs
end Go.Proofs.YtplonkeipdbchaaGreatDoor
