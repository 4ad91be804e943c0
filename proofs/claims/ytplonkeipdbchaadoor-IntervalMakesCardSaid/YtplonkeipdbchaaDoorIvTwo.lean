/- Package interval's Ratio and Named beside the reference's: the same exponents. Conditions: both numbers are from 1 to 2 to the 62 (Ratio). -/
import Derived.Test.YtplonkeipdbchaaDoorKnown05
import Derived.Test.YtplonkeipdbchaaDoorRefNamed
namespace Go.Proofs.YtplonkeipdbchaaDoor
open Go.RowKit

theorem pow_out {p : Nat} (hp : 2 ≤ p) : ∀ {n : Nat}, 1 ≤ n → ∃ a r, n = p ^ a * r ∧ r % p ≠ 0 ∧ 1 ≤ r := by
  intro n
  induction n using Nat.strongRecOn with
  | ind n ih =>
    intro hn
    by_cases h : n % p = 0
    · obtain ⟨a, r, h1, h2, h3⟩ := ih (n / p) (Nat.div_lt_self (by omega) (by omega)) (Nat.div_pos (Nat.le_of_dvd (by omega) (Nat.dvd_of_mod_eq_zero h)) (by omega))
      refine ⟨a + 1, r, ?_, h2, h3⟩
      rw [Nat.pow_succ, Nat.mul_comm (p ^ a) p, Nat.mul_assoc, ← h1]
      exact (Nat.mul_div_cancel' (Nat.dvd_of_mod_eq_zero h)).symm
    · exact ⟨0, n, by simp, h, hn⟩
theorem fac_out {n : Nat} (hn : 1 ≤ n) : ∃ a b c r, Fac n a b c r ∧ r % 2 ≠ 0 ∧ r % 3 ≠ 0 ∧ r % 5 ≠ 0 := by
  obtain ⟨a, x, h1, h2, h3⟩ := pow_out (p := 2) (by decide) hn
  obtain ⟨b, y, k1, k2, k3⟩ := pow_out (p := 3) (by decide) h3
  obtain ⟨c, z, l1, l2, l3⟩ := pow_out (p := 5) (by decide) k3
  have e1 : y % 2 ≠ 0 := fun e => h2 (by rw [k1]; exact Nat.mod_eq_zero_of_dvd (Nat.dvd_trans (Nat.dvd_of_mod_eq_zero e) (Nat.dvd_mul_left _ _)))
  have e2 : z % 2 ≠ 0 := fun e => e1 (by rw [l1]; exact Nat.mod_eq_zero_of_dvd (Nat.dvd_trans (Nat.dvd_of_mod_eq_zero e) (Nat.dvd_mul_left _ _)))
  have e3 : z % 3 ≠ 0 := fun e => k2 (by rw [l1]; exact Nat.mod_eq_zero_of_dvd (Nat.dvd_trans (Nat.dvd_of_mod_eq_zero e) (Nat.dvd_mul_left _ _)))
  exact ⟨a, b, c, z, ⟨by rw [h1, k1, l1]; simp only [Nat.mul_assoc]⟩, e2, e3, l2⟩
theorem right_one {x : Int} (h : -1000000 ≤ x ∧ x ≤ 1000000) : Right x 1 := ⟨by decide, by decide, h.1, h.2, by simp⟩
theorem prt_ones {x y z : Int} (hx : -6000 ≤ x ∧ x ≤ 6000) (hy : -6000 ≤ y ∧ y ≤ 6000) (hz : -6000 ≤ z ∧ z ≤ 6000) : prt [(x, 1), (y, 1), (z, 1)] = some ([x, y, z], 1) := by
  have hd : prD [(x, 1), (y, 1), (z, 1)] 1 = some 1 := by simp [prD, lcmA]
  unfold prt
  rw [hd]
  have e : ∀ k : Int, k * ((1 : Int) / 1) = k := fun k => by simp
  simp only [prN, e]
  rw [if_neg (by omega), if_neg (by omega), if_neg (by omega)]
  rfl
theorem ivR_ones {x y z : Int} (hx : -6000 ≤ x ∧ x ≤ 6000) (hy : -6000 ≤ y ∧ y ≤ 6000) (hz : -6000 ≤ z ∧ z ≤ 6000) : ivR x 1 y 1 z 1 = .tuple #[szv x 1 y 1 z 1, .int .i64 0] :=
  ivR_ok (fun q hq => by
    simp only [List.mem_cons, List.not_mem_nil, or_false] at hq
    rcases hq with rfl | rfl | rfl <;> exact right_one (by dsimp only; omega)) (by rw [prt_ones hx hy hz]; exact fun h => by cases h)
theorem low_one (x : Int) : lowN x 1 = x ∧ lowD x 1 = 1 := by
  unfold lowN lowD
  simp
/-- Of a small number the exponents are small. -/
theorem fac_small {n d a0 a1 a2 r b0 b1 b2 s : Nat} (h : Fac n a0 a1 a2 r) (h' : Fac d b0 b1 b2 s) (hn : 1 ≤ n ∧ n ≤ 4611686018427387904) (hd : 1 ≤ d ∧ d ≤ 4611686018427387904) :
    (-62 ≤ (a0 : Int) - b0 ∧ (a0 : Int) - b0 ≤ 62) ∧ (-62 ≤ (a1 : Int) - b1 ∧ (a1 : Int) - b1 ≤ 62) ∧ (-62 ≤ (a2 : Int) - b2 ∧ (a2 : Int) - b2 ≤ 62) := by
  obtain ⟨h1, h2, h3⟩ := fac_bd h hn.1 hn.2
  obtain ⟨k1, k2, k3⟩ := fac_bd h' hd.1 hd.2
  omega
theorem ratio_two (n d : Nat) (hn : 1 ≤ n ∧ n ≤ 4611686018427387904) (hd : 1 ≤ d ∧ d ≤ 4611686018427387904) : ∃ x y z : Int, ((-62 ≤ x ∧ x ≤ 62) ∧ (-62 ≤ y ∧ y ≤ 62) ∧ (-62 ≤ z ∧ z ≤ 62)) ∧
    (((∀ W, Calls Tryd.prog 15 #[.int .i64 (n : Int), .int .i64 (d : Int)] W fun e W' => e = .returned (.tuple #[szv x 1 y 1 z 1, .int .i64 0]) ∧ Below W.heap.size W W') ∧
      (∀ W, Calls Tryd.prog 16 #[.int .i64 (n : Int), .int .i64 (d : Int)] W fun e W' => e = .returned (.tuple #[ovv x y z 1, .bool true]) ∧ Below W.heap.size W W')) ∨
     ((∀ W, Calls Tryd.prog 15 #[.int .i64 (n : Int), .int .i64 (d : Int)] W fun e W' => e = .returned (.tuple #[szv 0 0 0 0 0 0, .int .i64 7]) ∧ Below W.heap.size W W') ∧
      (∀ W, Calls Tryd.prog 16 #[.int .i64 (n : Int), .int .i64 (d : Int)] W fun e W' => e = .returned (.tuple #[ovv x y z 1, .bool false]) ∧ Below W.heap.size W W'))) := by
  obtain ⟨a0, a1, a2, rn, f1, p2, p3, p5⟩ := fac_out hn.1
  obtain ⟨b0, b1, b2, rd, f2, q2, q3, q5⟩ := fac_out hd.1
  obtain ⟨g, hg⟩ : ∃ g, g = Nat.gcd n d := ⟨_, rfl⟩
  have hgp : 0 < g := by rw [hg]; exact Nat.gcd_pos_of_pos_left _ (by omega)
  have dn : g ∣ n := by rw [hg]; exact Nat.gcd_dvd_left _ _
  have dd : g ∣ d := by rw [hg]; exact Nat.gcd_dvd_right _ _
  have en : n = g * (n / g) := (Nat.mul_div_cancel' dn).symm
  have ed : d = g * (d / g) := (Nat.mul_div_cancel' dd).symm
  have hc : Nat.gcd (n / g) (d / g) = 1 := by rw [hg]; exact Nat.coprime_div_gcd_div_gcd (by rw [← hg]; exact hgp)
  have n1 : 1 ≤ n / g := Nat.div_pos (Nat.le_of_dvd (by omega) dn) hgp
  have d1 : 1 ≤ d / g := Nat.div_pos (Nat.le_of_dvd (by omega) dd) hgp
  obtain ⟨c0, c1, c2, sn, g1, l2, l3, l5⟩ := fac_out n1
  obtain ⟨e0, e1, e2, sd, g2, m2, m3, m5⟩ := fac_out d1
  obtain ⟨x0, x1, x2, x3⟩ := fac_match en ed hc hn.1 hd.1 f1 f2 ⟨p2, q2⟩ ⟨p3, q3⟩ ⟨p5, q5⟩ g1 g2 ⟨l2, m2⟩ ⟨l3, m3⟩ ⟨l5, m5⟩
  obtain ⟨s0, s1, s2⟩ := fac_small f1 f2 hn hd
  refine ⟨(a0 : Int) - b0, (a1 : Int) - b1, (a2 : Int) - b2, ⟨s0, s1, s2⟩, ?_⟩
  have hA : ∀ W, Calls Tryd.prog 15 #[.int .i64 (n : Int), .int .i64 (d : Int)] W fun e W' => e = .returned (if rn = rd then ivR ((a0 : Int) - b0) 1 ((a1 : Int) - b1) 1 ((a2 : Int) - b2) 1 else .tuple #[szv 0 0 0 0 0 0, .int .i64 7]) ∧ Below W.heap.size W W' := fun W => by
    refine (ratio_any n d W hn.1 hn.2 hd.1 hd.2).mono ?_
    rintro e w' ⟨⟨rn', rd', a0', b0', a1', b1', a2', b2', ⟨f1', f2'⟩, t2, t3, t5, he⟩, hb⟩
    obtain ⟨rfl, rfl, rfl, rfl⟩ := fac_uniq f1' f1 t2.1 t3.1 t5.1 p2 p3 p5
    obtain ⟨rfl, rfl, rfl, rfl⟩ := fac_uniq f2' f2 t2.2 t3.2 t5.2 q2 q3 q5
    exact ⟨he, hb⟩
  have hB : ∀ W, Calls Tryd.prog 16 #[.int .i64 (n : Int), .int .i64 (d : Int)] W fun e W' => e = .returned (.tuple #[ovv ((a0 : Int) - b0) ((a1 : Int) - b1) ((a2 : Int) - b2) 1, .bool (decide (sn = 1 ∧ sd = 1))]) ∧ Below W.heap.size W W' := fun W => by
    refine (refratio_any n d W hn.1 hn.2 hd.1 hd.2).mono ?_
    rw [← hg]
    rintro e w' ⟨⟨rn', rd', a0', b0', a1', b1', a2', b2', ⟨f1', f2'⟩, t2, t3, t5, he⟩, hb⟩
    obtain ⟨rfl, rfl, rfl, rfl⟩ := fac_uniq f1' g1 t2.1 t3.1 t5.1 l2 l3 l5
    obtain ⟨rfl, rfl, rfl, rfl⟩ := fac_uniq f2' g2 t2.2 t3.2 t5.2 m2 m3 m5
    rw [← x0, ← x1, ← x2] at he
    exact ⟨he, hb⟩
  by_cases hr : rn = rd
  · left
    rw [decide_eq_true (x3.1 hr)] at hB
    rw [if_pos hr, ivR_ones (by omega) (by omega) (by omega)] at hA
    exact ⟨hA, hB⟩
  · right
    rw [decide_eq_false (fun h => hr (x3.2 h))] at hB
    rw [if_neg hr] at hA
    exact ⟨hA, hB⟩
/-- The numbers of the names have no other prime. -/
theorem nm_good : ∀ q ∈ nmTab, ∃ a b c a' b' c' : Nat, Fac q.2.1 a b c 1 ∧ Fac q.2.2 a' b' c' 1 := by
  unfold nmTab
  intro q hq
  simp only [List.mem_cons, List.not_mem_nil, or_false] at hq
  rcases hq with rfl | rfl | rfl | rfl | rfl | rfl | rfl | rfl | rfl | rfl | rfl
  · exact ⟨0, 0, 0, 0, 0, 0, ⟨by decide⟩, ⟨by decide⟩⟩
  · exact ⟨1, 0, 0, 0, 0, 0, ⟨by decide⟩, ⟨by decide⟩⟩
  · exact ⟨0, 1, 0, 1, 0, 0, ⟨by decide⟩, ⟨by decide⟩⟩
  · exact ⟨2, 0, 0, 0, 1, 0, ⟨by decide⟩, ⟨by decide⟩⟩
  · exact ⟨0, 0, 1, 2, 0, 0, ⟨by decide⟩, ⟨by decide⟩⟩
  · exact ⟨1, 1, 0, 0, 0, 1, ⟨by decide⟩, ⟨by decide⟩⟩
  · exact ⟨0, 2, 0, 3, 0, 0, ⟨by decide⟩, ⟨by decide⟩⟩
  · exact ⟨0, 4, 0, 4, 0, 1, ⟨by decide⟩, ⟨by decide⟩⟩
  · exact ⟨0, 12, 0, 19, 0, 0, ⟨by decide⟩, ⟨by decide⟩⟩
  · exact ⟨0, 8, 1, 15, 0, 0, ⟨by decide⟩, ⟨by decide⟩⟩
  · exact ⟨7, 0, 0, 0, 0, 3, ⟨by decide⟩, ⟨by decide⟩⟩
theorem named_two (k : ByteArray) :
    ((∀ W, Calls Tryd.prog 12 #[.string k] W fun e W' => e = .returned (.tuple #[szv 0 0 0 0 0 0, .int .i64 10]) ∧ Below W.heap.size W W') ∧
      (∀ W, Calls Tryd.prog 13 #[.string k] W fun e W' => e = .returned (.tuple #[ovv 0 0 0 0, .bool false]) ∧ Below W.heap.size W W')) ∨
    ∃ x y z : Int, ((-62 ≤ x ∧ x ≤ 62) ∧ (-62 ≤ y ∧ y ≤ 62) ∧ (-62 ≤ z ∧ z ≤ 62)) ∧
      ((∀ W, Calls Tryd.prog 12 #[.string k] W fun e W' => e = .returned (.tuple #[szv x 1 y 1 z 1, .int .i64 0]) ∧ Below W.heap.size W W') ∧
      (∀ W, Calls Tryd.prog 13 #[.string k] W fun e W' => e = .returned (.tuple #[ovv x y z 1, .bool true]) ∧ Below W.heap.size W W')) := by
  cases hq : nmGet k nmTab with
  | none =>
    left
    refine ⟨fun W => (named_any k W).mono ?_, fun W => (refnamed_any k W).mono ?_⟩
    · intro e w' h; unfold RetNamed at h; rw [hq] at h; exact h
    · intro e w' h; unfold RrNamed at h; rw [hq] at h; exact h
  | some q =>
    right
    obtain ⟨n, d⟩ := q
    obtain ⟨s, hs⟩ := nmGet_mem k nmTab _ hq
    obtain ⟨⟨hn1, hn2⟩, hd1, hd2⟩ := nmTab_bd _ hs
    obtain ⟨a0, a1, a2, b0, b1, b2, f1, f2⟩ := nm_good _ hs
    dsimp only at hn1 hn2 hd1 hd2 f1 f2
    obtain ⟨g, hg⟩ : ∃ g, g = Nat.gcd n d := ⟨_, rfl⟩
    have hgp : 0 < g := by rw [hg]; exact Nat.gcd_pos_of_pos_left _ (by omega)
    have dn : g ∣ n := by rw [hg]; exact Nat.gcd_dvd_left _ _
    have dd : g ∣ d := by rw [hg]; exact Nat.gcd_dvd_right _ _
    have en : n = g * (n / g) := (Nat.mul_div_cancel' dn).symm
    have ed : d = g * (d / g) := (Nat.mul_div_cancel' dd).symm
    have hc : Nat.gcd (n / g) (d / g) = 1 := by rw [hg]; exact Nat.coprime_div_gcd_div_gcd (by rw [← hg]; exact hgp)
    obtain ⟨s0, s1, s2⟩ := fac_small f1 f2 ⟨hn1, hn2⟩ ⟨hd1, hd2⟩
    refine ⟨(a0 : Int) - b0, (a1 : Int) - b1, (a2 : Int) - b2, ⟨s0, s1, s2⟩, fun W => (named_any k W).mono ?_, fun W => (refnamed_any k W).mono ?_⟩
    · intro e w' h
      unfold RetNamed at h
      rw [hq] at h
      obtain ⟨⟨rn', rd', a0', b0', a1', b1', a2', b2', ⟨f1', f2'⟩, t2, t3, t5, he⟩, hb⟩ := h
      obtain ⟨rfl, rfl, rfl, rfl⟩ := fac_uniq f1' f1 t2.1 t3.1 t5.1 (by decide) (by decide) (by decide)
      obtain ⟨rfl, rfl, rfl, rfl⟩ := fac_uniq f2' f2 t2.2 t3.2 t5.2 (by decide) (by decide) (by decide)
      rw [if_pos rfl, ivR_ones (by omega) (by omega) (by omega)] at he
      exact ⟨he, hb⟩
    · intro e w' h
      unfold RrNamed at h
      rw [hq] at h
      dsimp only at h
      rw [← hg] at h
      obtain ⟨⟨rn', rd', a0', b0', a1', b1', a2', b2', ⟨g1, g2⟩, t2, t3, t5, he⟩, hb⟩ := h
      obtain ⟨x0, x1, x2, x3⟩ := fac_match en ed hc hn1 hd1 f1 f2 ⟨by decide, by decide⟩ ⟨by decide, by decide⟩ ⟨by decide, by decide⟩ g1 g2 t2 t3 t5
      rw [← x0, ← x1, ← x2, decide_eq_true (x3.1 rfl)] at he
      exact ⟨he, hb⟩
end Go.Proofs.YtplonkeipdbchaaDoor
