/- Package interval: Add, Sub, Compare and Sign of planned sizes. Conditions: the plans' numerators over one denominator are at most 6000, the denominator at most 240. -/
import Derived.Test.YtplonkeipdbchaaDoorIvAdd
import Derived.Test.YtplonkeipdbchaaDoorIvErrs
import Derived.Test.YtplonkeipdbchaaDoorLMake
import Derived.Test.YtplonkeipdbchaaDoorIvMono
namespace Go.Proofs.YtplonkeipdbchaaDoor
open Go.RowKit

theorem low_tim {n M : Int} (hM : 0 < M) : lowN n M * M = n * lowD n M := by
  obtain ⟨g, hg, e1, e2, _, _⟩ := low_mul n M hM
  have e3 : lowN n M * M = lowN n M * (g * lowD n M) := by rw [e2]
  have e4 : n * lowD n M = (g * lowN n M) * lowD n M := by rw [e1]
  rw [e3, e4]
  simp only [Int.mul_left_comm, Int.mul_assoc]
/-- The planned size. -/
abbrev pz (n0 n1 n2 M : Int) : Value := szv (lowN n0 M) (lowD n0 M) (lowN n1 M) (lowD n1 M) (lowN n2 M) (lowD n2 M)
/-- Numerators and denominator are in bounds. -/
def PzB (n0 n1 n2 M : Int) : Prop := (1 ≤ M ∧ M ≤ 240) ∧ (-6000 ≤ n0 ∧ n0 ≤ 6000) ∧ (-6000 ≤ n1 ∧ n1 ≤ 6000) ∧ (-6000 ≤ n2 ∧ n2 ≤ 6000)
theorem PzB.ok {n0 n1 n2 M : Int} (h : PzB n0 n1 n2 M) : ivE [(lowN n0 M, lowD n0 M), (lowN n1 M, lowD n1 M), (lowN n2 M, lowD n2 M)] = 0 ∧ ivR (lowN n0 M) (lowD n0 M) (lowN n1 M) (lowD n1 M) (lowN n2 M) (lowD n2 M) = .tuple #[pz n0 n1 n2 M, .int .i64 0] :=
  plan_ok h.1 h.2.1 h.2.2.1 h.2.2.2
theorem rat_cross {a b c d n M m N r K : Int} (ha : a * M = n * b) (hc : c * N = m * d) (hM : 0 < M) (hN : 0 < N) (h : (n * N + m * M) * K = r * (M * N)) : (a * d + c * b) * K = r * (b * d) := by
  have hMN : M * N ≠ 0 := Int.ne_of_gt (Int.mul_pos hM hN)
  refine Int.eq_of_mul_eq_mul_left hMN ?_
  have e1 : M * N * ((a * d + c * b) * K) = ((a * M) * (d * N) + (c * N) * (b * M)) * K := by
    simp only [Int.mul_add, Int.add_mul]
    congr 1 <;> simp only [Int.mul_assoc, Int.mul_comm, Int.mul_left_comm]
  have e2 : ((a * M) * (d * N) + (c * N) * (b * M)) * K = (b * d) * ((n * N + m * M) * K) := by
    rw [ha, hc]
    simp only [Int.mul_add, Int.add_mul]
    congr 1 <;> simp only [Int.mul_assoc, Int.mul_comm, Int.mul_left_comm]
  rw [e1, e2, h]
  simp only [Int.mul_assoc, Int.mul_comm, Int.mul_left_comm]
theorem low_sum {n M m N r K : Int} (hM : 0 < M) (hN : 0 < N) (hK : 0 < K) (h : (n * N + m * M) * K = r * (M * N)) :
    lowN (lowN n M * lowD m N + lowN m N * lowD n M) (lowD n M * lowD m N) = lowN r K ∧ lowD (lowN n M * lowD m N + lowN m N * lowD n M) (lowD n M * lowD m N) = lowD r K := by
  obtain ⟨_, _, _, _, p1, _⟩ := low_mul n M hM
  obtain ⟨_, _, _, _, p2, _⟩ := low_mul m N hN
  exact low_cross (Int.mul_pos p1 p2) hK (rat_cross (low_tim hM) (low_tim hN) hM hN h)
theorem low_dif {n M m N r K : Int} (hM : 0 < M) (hN : 0 < N) (hK : 0 < K) (h : (n * N - m * M) * K = r * (M * N)) :
    lowN (lowN n M * lowD m N - lowN m N * lowD n M) (lowD n M * lowD m N) = lowN r K ∧ lowD (lowN n M * lowD m N - lowN m N * lowD n M) (lowD n M * lowD m N) = lowD r K := by
  obtain ⟨_, _, _, _, p1, _⟩ := low_mul n M hM
  obtain ⟨_, _, _, _, p2, _⟩ := low_mul m N hN
  have h' : (n * N + (-m) * M) * K = r * (M * N) := by rw [Int.neg_mul, ← Int.sub_eq_add_neg]; exact h
  have hc : (-lowN m N) * N = (-m) * lowD m N := by rw [Int.neg_mul, Int.neg_mul, low_tim hN]
  have := rat_cross (low_tim (n := n) hM) hc hM hN h'
  rw [Int.neg_mul, ← Int.sub_eq_add_neg] at this
  exact low_cross (Int.mul_pos p1 p2) hK this
theorem iadd_plan {n0 n1 n2 M m0 m1 m2 N r0 r1 r2 K : Int} (hn : PzB n0 n1 n2 M) (hm : PzB m0 m1 m2 N) (hr : PzB r0 r1 r2 K)
    (h0 : (n0 * N + m0 * M) * K = r0 * (M * N)) (h1 : (n1 * N + m1 * M) * K = r1 * (M * N)) (h2 : (n2 * N + m2 * M) * K = r2 * (M * N)) (w : World) :
    Calls Tryd.prog 21 #[pz n0 n1 n2 M, pz m0 m1 m2 N] w fun e w' => e = .returned (.tuple #[pz r0 r1 r2 K, .int .i64 0]) ∧ Below w.heap.size w w' := by
  have h := iAdd_any _ _ _ _ _ _ _ _ _ _ _ _ w hn.ok.1 hm.ok.1
  have p1 : 0 < M := by have := hn.1; omega
  have p2 : 0 < N := by have := hm.1; omega
  have p3 : 0 < K := by have := hr.1; omega
  rw [(low_sum p1 p2 p3 h0).1, (low_sum p1 p2 p3 h0).2, (low_sum p1 p2 p3 h1).1, (low_sum p1 p2 p3 h1).2, (low_sum p1 p2 p3 h2).1, (low_sum p1 p2 p3 h2).2, hr.ok.2] at h
  exact h
theorem isub_plan {n0 n1 n2 M m0 m1 m2 N r0 r1 r2 K : Int} (hn : PzB n0 n1 n2 M) (hm : PzB m0 m1 m2 N) (hr : PzB r0 r1 r2 K)
    (h0 : (n0 * N - m0 * M) * K = r0 * (M * N)) (h1 : (n1 * N - m1 * M) * K = r1 * (M * N)) (h2 : (n2 * N - m2 * M) * K = r2 * (M * N)) (w : World) :
    Calls Tryd.prog 22 #[pz n0 n1 n2 M, pz m0 m1 m2 N] w fun e w' => e = .returned (.tuple #[pz r0 r1 r2 K, .int .i64 0]) ∧ Below w.heap.size w w' := by
  have h := iSub_any _ _ _ _ _ _ _ _ _ _ _ _ w hn.ok.1 hm.ok.1
  have p1 : 0 < M := by have := hn.1; omega
  have p2 : 0 < N := by have := hm.1; omega
  have p3 : 0 < K := by have := hr.1; omega
  rw [(low_dif p1 p2 p3 h0).1, (low_dif p1 p2 p3 h0).2, (low_dif p1 p2 p3 h1).1, (low_dif p1 p2 p3 h1).2, (low_dif p1 p2 p3 h2).1, (low_dif p1 p2 p3 h2).2, hr.ok.2] at h
  exact h
theorem lg_tim {x y z n0 n1 n2 M D : Int} (h0 : x * M = n0 * D) (h1 : y * M = n1 * D) (h2 : z * M = n2 * D) : M * lgZ x y z = D * lgZ n0 n1 n2 := by
  rw [← lg_mul, ← lg_mul, Int.mul_comm M x, Int.mul_comm M y, Int.mul_comm M z, h0, h1, h2, Int.mul_comm n0, Int.mul_comm n1, Int.mul_comm n2]
theorem icmp_plan {n0 n1 n2 M m0 m1 m2 N : Int} (hn : PzB n0 n1 n2 M) (hm : PzB m0 m1 m2 N) (w : World) (ht : Tab w) :
    Calls Tryd.prog 25 #[pz n0 n1 n2 M, pz m0 m1 m2 N] w fun e w' => e = .returned (.tuple #[.int .i64 (sgn (N * lgZ n0 n1 n2 - M * lgZ m0 m1 m2)), .int .i64 0]) ∧ Below w.heap.size w w' := by
  obtain ⟨rA, x, y, z, L, pA, bL, a0, a1, a2⟩ := plan_prt hn.1 hn.2.1 hn.2.2.1 hn.2.2.2
  obtain ⟨rB, u, v, t, J, pB, bJ, b0, b1, b2⟩ := plan_prt hm.1 hm.2.1 hm.2.2.1 hm.2.2.2
  have h := icompare_all _ _ _ _ _ _ _ _ _ _ _ _ x y z L u v t J w ht rA rB pA pB
  have p1 : 0 < M := by have := hn.1; omega
  have p2 : 0 < N := by have := hm.1; omega
  have e1 := lg_tim a0 a1 a2
  have e2 := lg_tim b0 b1 b2
  have e : (M * N) * (J * lgZ x y z - L * lgZ u v t) = (L * J) * (N * lgZ n0 n1 n2 - M * lgZ m0 m1 m2) := by
    have k1 : (M * N) * (J * lgZ x y z) = (N * J) * (M * lgZ x y z) := by simp only [Int.mul_assoc, Int.mul_comm, Int.mul_left_comm]
    have k2 : (M * N) * (L * lgZ u v t) = (M * L) * (N * lgZ u v t) := by simp only [Int.mul_assoc, Int.mul_comm, Int.mul_left_comm]
    rw [Int.mul_sub, Int.mul_sub, k1, k2, e1, e2]
    congr 1 <;> simp only [Int.mul_assoc, Int.mul_comm, Int.mul_left_comm]
  rw [← sgn_mul_pos (Int.mul_pos p1 p2) (k := J * lgZ x y z - L * lgZ u v t), e, sgn_mul_pos (Int.mul_pos (by omega) (by omega))] at h
  exact h
theorem isgn_plan {n0 n1 n2 M : Int} (hn : PzB n0 n1 n2 M) (w : World) (ht : Tab w) :
    Calls Tryd.prog 27 #[pz n0 n1 n2 M] w fun e w' => e = .returned (.tuple #[.int .i64 (sgn (lgZ n0 n1 n2)), .int .i64 0]) ∧ Below w.heap.size w w' := by
  obtain ⟨rA, x, y, z, L, pA, bL, a0, a1, a2⟩ := plan_prt hn.1 hn.2.1 hn.2.2.1 hn.2.2.2
  have h := iSign_any _ _ _ _ _ _ x y z L w ht rA pA
  have p1 : 0 < M := by have := hn.1; omega
  have e1 := lg_tim a0 a1 a2
  rw [← sgn_mul_pos p1 (k := lgZ x y z), e1, sgn_mul_pos (by omega)] at h
  exact h
end Go.Proofs.YtplonkeipdbchaaDoor
