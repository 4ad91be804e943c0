/- Law IntervalParts: the walk. Conditions: the plans' numerators are int8, denominators and number uint8; the library's table of powers of ten reads as its text lays it. Printed by genpartslaw.py. -/
import Derived.Test.YtplonkeipdbchaaDoorIvAdd
import Derived.Test.YtplonkeipdbchaaDoorLMake
import Derived.Test.YtplonkeipdbchaaDoorIvMono
import Derived.Test.YtplonkeipdbchaaDoorKnown05
namespace Go.Proofs.YtplonkeipdbchaaDoor
open Go.RowKit

theorem four_of' {W : World} {g : Nat} {t : TypeId} {a b c d : Value} (h : Blk W g t [a, b, c, d]) : W.cell? ⟨g, 0, none⟩ = some a ∧ W.cell? ⟨g, 1, none⟩ = some b ∧ W.cell? ⟨g, 2, none⟩ = some c ∧ W.cell? ⟨g, 3, none⟩ = some d := ⟨h.cell 0, h.cell 1, h.cell 2, h.cell 3⟩
theorem low_times {n M : Int} (hM : 0 < M) : lowN n M * M = n * lowD n M := by
  obtain ⟨g, hg, e1, e2, _, _⟩ := low_mul n M hM
  have e3 : lowN n M * M = lowN n M * (g * lowD n M) := by rw [e2]
  have e4 : n * lowD n M = (g * lowN n M) * lowD n M := by rw [e1]
  rw [e3, e4]
  simp only [Int.mul_left_comm, Int.mul_assoc]
theorem part_cross {n D k M : Int} (hD : 0 < D) (hM : M = D * k) : (lowN n D * 1) * M = (((1 : Nat) : Int) * n) * (lowD n D * k) := by
  have h := low_times (n := n) hD
  rw [hM, Int.mul_one, show ((1 : Nat) : Int) = 1 from rfl, Int.one_mul, ← Int.mul_assoc, h, Int.mul_assoc]
theorem sum_cross {F1 F2 G1 G2 M j n : Int} (h1 : F1 * M = j * n * G1) (h2 : F2 * M = ((1 : Nat) : Int) * n * G2) : (F1 * G2 + F2 * G1) * M = (j + 1) * n * (G1 * G2) := by
  have e1 : (F1 * G2 + F2 * G1) * M = (F1 * M) * G2 + (F2 * M) * G1 := by
    rw [Int.add_mul]
    congr 1 <;> exact Int.mul_right_comm _ _ _
  rw [e1, h1, h2, show ((1 : Nat) : Int) = 1 from rfl, Int.one_mul, Int.add_mul, Int.add_mul, Int.one_mul]
  congr 1
  · simp only [Int.mul_assoc]
  · simp only [Int.mul_comm, Int.mul_left_comm]
/-- What the law's loop carries. -/
def PtRel (w : World) (gA gP gS kk : Nat) (n0 n1 n2 dp m0 m1 m2 dq a0 b0 a1 b1 a2 b2 : Int) (f0 g0 f1 g1 f2 g2 : Nat → Int) (e i : Value) (W : World) : Prop :=
  e = .int .i64 0 ∧ ∃ j : Nat, 1 ≤ j ∧ j ≤ kk ∧ i = .int .i64 (j : Int) ∧ Hp w [(w.heap.size, 55, [.int .i8 n0, .int .i8 n1, .int .i8 n2, .int .u8 dp]), (w.heap.size + 1, 55, [.int .i8 m0, .int .i8 m1, .int .i8 m2, .int .u8 dq]), (gA, 28, [.int .i64 a0, .int .i64 b0, .int .i64 a1, .int .i64 b1, .int .i64 a2, .int .i64 b2]), (gP, 28, [.int .i64 (f0 1), .int .i64 (g0 1), .int .i64 (f1 1), .int .i64 (g1 1), .int .i64 (f2 1), .int .i64 (g2 1)]), (gS, 28, [.int .i64 (f0 j), .int .i64 (g0 j), .int .i64 (f1 j), .int .i64 (g1 j), .int .i64 (f2 j), .int .i64 (g2 j)])] W
set_option maxRecDepth 100000 in
set_option maxHeartbeats 16000000 in
theorem lpartsLaw_any (n0 n1 n2 dp m0 m1 m2 dq nn : Int) (w : World) (ht : Tab w) (h0 : -128 ≤ n0 ∧ n0 ≤ 127) (h1 : -128 ≤ n1 ∧ n1 ≤ 127) (h2 : -128 ≤ n2 ∧ n2 ≤ 127) (hdp : 0 ≤ dp ∧ dp ≤ 255)
    (k0 : -128 ≤ m0 ∧ m0 ≤ 127) (k1 : -128 ≤ m1 ∧ m1 ≤ 127) (k2 : -128 ≤ m2 ∧ m2 ≤ 127) (hdq : 0 ≤ dq ∧ dq ≤ 255) (hnn : 0 ≤ nn ∧ nn ≤ 255) :
    Calls Tryd.prog 6 #[plv n0 n1 n2 dp, plv m0 m1 m2 dq, .int .u8 nn] w fun e w' => e = .returned (.bool true) ∧ Below w.heap.size w w' := by
  have hmp := fun W => lmake_any n0 n1 n2 dp W h0 h1 h2 hdp
  have hmq := fun W => lmake_any m0 m1 m2 dq W k0 k1 k2 hdq
  obtain ⟨D, hD⟩ : ∃ D, D = 1 + dp % 12 := ⟨_, rfl⟩
  obtain ⟨E, hE⟩ : ∃ D, D = 1 + dq % 12 := ⟨_, rfl⟩
  obtain ⟨r, hr⟩ : ∃ r, r = nn % 12 := ⟨_, rfl⟩
  obtain ⟨kk, hkk⟩ : ∃ kk : Nat, (kk : Int) = 1 + r := ⟨(1 + r).toNat, by omega⟩
  rw [← hD] at hmp
  rw [← hE] at hmq
  have bD : 1 ≤ D ∧ D ≤ 12 := by omega
  have bE : 1 ≤ E ∧ E ≤ 12 := by omega
  have bK : 1 ≤ kk ∧ kk ≤ 12 := by omega
  have hrm : wrap64 (nn.tmod 12) = r := by rw [Int.tmod_eq_emod_of_nonneg hnn.1, ← hr]; exact IntWalk.wrap64_in _ ⟨by omega, by omega⟩
  have hwK : wrap64 (1 + r) = (kk : Int) := by rw [hkk]; exact IntWalk.wrap64_in _ ⟨by omega, by omega⟩
  obtain ⟨M, hM⟩ : ∃ M, M = D * (kk : Int) := ⟨_, rfl⟩
  have bM : 1 ≤ M ∧ M ≤ 240 := by
    have u1 := Int.mul_le_mul (a := D) (b := (kk : Int)) (c := 12) (d := 12) (by omega) (by omega) (by omega) (by decide)
    have u2 := Int.mul_pos (a := D) (b := (kk : Int)) (by omega) (by omega)
    omega
  obtain ⟨oA, _⟩ := plan_ok (M := D) (n0 := n0) (n1 := n1) (n2 := n2) ⟨by omega, by omega⟩ ⟨by omega, by omega⟩ ⟨by omega, by omega⟩ ⟨by omega, by omega⟩
  obtain ⟨oB, _⟩ := plan_ok (M := E) (n0 := m0) (n1 := m1) (n2 := m2) ⟨by omega, by omega⟩ ⟨by omega, by omega⟩ ⟨by omega, by omega⟩ ⟨by omega, by omega⟩
  obtain ⟨rA, x, y, z, L, pA, bL, _, _, _⟩ := plan_prt (M := D) (n0 := n0) (n1 := n1) (n2 := n2) ⟨by omega, by omega⟩ ⟨by omega, by omega⟩ ⟨by omega, by omega⟩ ⟨by omega, by omega⟩
  obtain ⟨rB, u, v, t, J, pB, bJ, _, _, _⟩ := plan_prt (M := E) (n0 := m0) (n1 := m1) (n2 := m2) ⟨by omega, by omega⟩ ⟨by omega, by omega⟩ ⟨by omega, by omega⟩ ⟨by omega, by omega⟩
  have lA := (prt_num pA (right_mild rA)).2
  have lB := (prt_num pB (right_mild rB)).2
  have hmono := cents_mono (x := x) (y := y) (z := z) (D := L) (u := u) (v := v) (t := t) (E := J) (lA y (by simp)) (lA z (by simp)) ⟨by omega, by omega⟩ (lB v (by simp)) (lB t (by simp)) ⟨by omega, by omega⟩
  obtain ⟨u0, u1, u2⟩ := ivE_right oA
  obtain ⟨v0, v1, v2⟩ := ivE_right oB
  have hcp := fun W hW => icompare_all _ _ _ _ _ _ _ _ _ _ _ _ x y z L u v t J W hW rA rB pA pB
  have hca := fun W hW => icents_any _ _ _ _ _ _ x y z L W hW (right_i64 u0).1 (right_i64 u0).2 (right_i64 u1).1 (right_i64 u1).2 (right_i64 u2).1 (right_i64 u2).2 oA pA
  have hcb := fun W hW => icents_any _ _ _ _ _ _ u v t J W hW (right_i64 v0).1 (right_i64 v0).2 (right_i64 v1).1 (right_i64 v1).2 (right_i64 v2).1 (right_i64 v2).2 oB pB
  have hk1 : Right 1 (kk : Int) := ⟨by omega, by omega, by decide, by decide, by simp⟩
  have hsc := fun W => iScale_any _ _ _ _ _ _ 1 (kk : Int) W oA hk1
  obtain ⟨cm, hcm'⟩ : ∃ c, c = sgn (J * lgZ x y z - L * lgZ u v t) := ⟨_, rfl⟩
  obtain ⟨X, hX⟩ : ∃ c, c = cenZ x y z L := ⟨_, rfl⟩
  obtain ⟨Y, hY⟩ : ∃ c, c = cenZ u v t J := ⟨_, rfl⟩
  rw [← hcm', ← hX, ← hY] at hmono
  rw [← hcm'] at hcp
  rw [← hX] at hca
  rw [← hY] at hcb
  obtain ⟨f0, hf0⟩ : ∃ f : Nat → Int, f = fun j : Nat => lowN ((j : Int) * n0) M := ⟨_, rfl⟩
  obtain ⟨g0, hg0⟩ : ∃ f : Nat → Int, f = fun j : Nat => lowD ((j : Int) * n0) M := ⟨_, rfl⟩
  have cc0 := low_cross (n := lowN n0 D * 1) (d := lowD n0 D * (kk : Int)) (m := ((1 : Nat) : Int) * n0) (e := M) (Int.mul_pos u0.1 (by omega)) (by omega) (part_cross (by omega) hM)
  rw [cc0.1, cc0.2] at hsc
  obtain ⟨f1, hf1⟩ : ∃ f : Nat → Int, f = fun j : Nat => lowN ((j : Int) * n1) M := ⟨_, rfl⟩
  obtain ⟨g1, hg1⟩ : ∃ f : Nat → Int, f = fun j : Nat => lowD ((j : Int) * n1) M := ⟨_, rfl⟩
  have cc1 := low_cross (n := lowN n1 D * 1) (d := lowD n1 D * (kk : Int)) (m := ((1 : Nat) : Int) * n1) (e := M) (Int.mul_pos u1.1 (by omega)) (by omega) (part_cross (by omega) hM)
  rw [cc1.1, cc1.2] at hsc
  obtain ⟨f2, hf2⟩ : ∃ f : Nat → Int, f = fun j : Nat => lowN ((j : Int) * n2) M := ⟨_, rfl⟩
  obtain ⟨g2, hg2⟩ : ∃ f : Nat → Int, f = fun j : Nat => lowD ((j : Int) * n2) M := ⟨_, rfl⟩
  have cc2 := low_cross (n := lowN n2 D * 1) (d := lowD n2 D * (kk : Int)) (m := ((1 : Nat) : Int) * n2) (e := M) (Int.mul_pos u2.1 (by omega)) (by omega) (part_cross (by omega) hM)
  rw [cc2.1, cc2.2] at hsc
  have hP : ∀ j : Nat, j ≤ 12 → ivE [(f0 j, g0 j), (f1 j, g1 j), (f2 j, g2 j)] = 0 ∧ ivR (f0 j) (g0 j) (f1 j) (g1 j) (f2 j) (g2 j) = .tuple #[szv (f0 j) (g0 j) (f1 j) (g1 j) (f2 j) (g2 j), .int .i64 0] := fun j hj => by
    rw [hf0, hf1, hf2, hg0, hg1, hg2]
    have e : ∀ n : Int, -128 ≤ n ∧ n ≤ 127 → -6000 ≤ (j : Int) * n ∧ (j : Int) * n ≤ 6000 := fun n hn => by
      have a1 := Int.mul_le_mul_of_nonneg_left hn.1 (show (0 : Int) ≤ j by omega)
      have a2 := Int.mul_le_mul_of_nonneg_left hn.2 (show (0 : Int) ≤ j by omega)
      omega
    exact plan_ok bM (e n0 h0) (e n1 h1) (e n2 h2)
  have hfa : (f0 kk = lowN n0 D ∧ g0 kk = lowD n0 D) ∧ (f1 kk = lowN n1 D ∧ g1 kk = lowD n1 D) ∧ (f2 kk = lowN n2 D ∧ g2 kk = lowD n2 D) := by
    rw [hf0, hf1, hf2, hg0, hg1, hg2]
    have e : ∀ n : Int, lowN ((kk : Int) * n) M = lowN n D ∧ lowD ((kk : Int) * n) M = lowD n D := fun n => low_cross (by omega) (by omega) (by rw [hM]; simp only [Int.mul_comm, Int.mul_left_comm])
    exact ⟨e n0, e n1, e n2⟩
  have hsc' : ∀ W, Calls Tryd.prog 18 #[szv (lowN n0 D) (lowD n0 D) (lowN n1 D) (lowD n1 D) (lowN n2 D) (lowD n2 D), .agg #[.int .i64 1, .int .i64 (kk : Int)]] W fun e w' => e = .returned (.tuple #[szv (f0 1) (g0 1) (f1 1) (g1 1) (f2 1) (g2 1), .int .i64 0]) ∧ Below W.heap.size W w' := fun W => by
    have h := hsc W
    have e := (hP 1 (by decide)).2
    rw [hf0, hf1, hf2, hg0, hg1, hg2] at e ⊢
    rw [← e]
    exact h
  have had : ∀ (j : Nat) W, j < 12 → Calls Tryd.prog 21 #[szv (f0 j) (g0 j) (f1 j) (g1 j) (f2 j) (g2 j), szv (f0 1) (g0 1) (f1 1) (g1 1) (f2 1) (g2 1)] W fun e w' => e = .returned (.tuple #[szv (f0 (j + 1)) (g0 (j + 1)) (f1 (j + 1)) (g1 (j + 1)) (f2 (j + 1)) (g2 (j + 1)), .int .i64 0]) ∧ Below W.heap.size W w' := fun j W hj => by
    have e1 := (hP j (by omega)).1
    have e2 := (hP 1 (by decide)).1
    have e3 := (hP (j + 1) (by omega)).2
    have h := iAdd_any _ _ _ _ _ _ _ _ _ _ _ _ W e1 e2
    obtain ⟨q0, q1, q2⟩ := ivE_right e1
    obtain ⟨s0, s1, s2⟩ := ivE_right e2
    have key : ∀ (n : Int) (f g : Nat → Int), (f = fun j : Nat => lowN ((j : Int) * n) M) → (g = fun j : Nat => lowD ((j : Int) * n) M) → 0 < g j → 0 < g 1 → lowN (f j * g 1 + f 1 * g j) (g j * g 1) = f (j + 1) ∧ lowD (f j * g 1 + f 1 * g j) (g j * g 1) = g (j + 1) := fun n f g ef eg p1 p2 => by
      have hc := low_cross (n := f j * g 1 + f 1 * g j) (d := g j * g 1) (m := ((j + 1 : Nat) : Int) * n) (e := M) (Int.mul_pos p1 p2) (by omega) (by
        have hm1 : f j * M = (j : Int) * n * g j := by rw [ef, eg]; exact low_times (by omega)
        have hm2 : f 1 * M = ((1 : Nat) : Int) * n * g 1 := by rw [ef, eg]; exact low_times (by omega)
        exact sum_cross hm1 hm2)
      rw [hc.1, hc.2]
      subst ef eg
      exact ⟨rfl, rfl⟩
    rw [(key n0 f0 g0 hf0 hg0 q0.1 s0.1).1, (key n0 f0 g0 hf0 hg0 q0.1 s0.1).2, (key n1 f1 g1 hf1 hg1 q1.1 s1.1).1, (key n1 f1 g1 hf1 hg1 q1.1 s1.1).2, (key n2 f2 g2 hf2 hg2 q2.1 s2.1).1, (key n2 f2 g2 hf2 hg2 q2.1 s2.1).2, e3] at h
    exact h
  obtain ⟨a0, ha0⟩ : ∃ p, p = lowN n0 D := ⟨_, rfl⟩
  obtain ⟨b0, hb0⟩ : ∃ p, p = lowD n0 D := ⟨_, rfl⟩
  rw [← ha0, ← hb0] at hmp hca hcp hsc' hfa
  obtain ⟨a1, ha1⟩ : ∃ p, p = lowN n1 D := ⟨_, rfl⟩
  obtain ⟨b1, hb1⟩ : ∃ p, p = lowD n1 D := ⟨_, rfl⟩
  rw [← ha1, ← hb1] at hmp hca hcp hsc' hfa
  obtain ⟨a2, ha2⟩ : ∃ p, p = lowN n2 D := ⟨_, rfl⟩
  obtain ⟨b2, hb2⟩ : ∃ p, p = lowD n2 D := ⟨_, rfl⟩
  rw [← ha2, ← hb2] at hmp hca hcp hsc' hfa
  obtain ⟨c0, hc0⟩ : ∃ p, p = lowN m0 E := ⟨_, rfl⟩
  obtain ⟨d0, hd0⟩ : ∃ p, p = lowD m0 E := ⟨_, rfl⟩
  rw [← hc0, ← hd0] at hmq hcb hcp
  obtain ⟨c1, hc1⟩ : ∃ p, p = lowN m1 E := ⟨_, rfl⟩
  obtain ⟨d1, hd1⟩ : ∃ p, p = lowD m1 E := ⟨_, rfl⟩
  rw [← hc1, ← hd1] at hmq hcb hcp
  obtain ⟨c2, hc2⟩ : ∃ p, p = lowN m2 E := ⟨_, rfl⟩
  obtain ⟨d2, hd2⟩ : ∃ p, p = lowD m2 E := ⟨_, rfl⟩
  rw [← hc2, ← hd2] at hmq hcb hcp
  have heq1 := fun W => eql_size W a0 b0 a1 b1 a2 b2 a0 b0 a1 b1 a2 b2
  simp only [szB_self] at heq1
  have HEQ := Lib.hid heq1
  have HMP := Lib.hid hmp
  have HMQ := Lib.hid hmq
  have HSC := Lib.hid hsc'
  have HAD := Lib.hid had
  have HCP := Lib.hid hcp
  have HCA := Lib.hid hca
  have HCB := Lib.hid hcb
  have HFA := Lib.hid hfa
  have HMO := Lib.hid hmono
  have HT := Lib.hid ht
  have HK := Lib.hid bK
  have hM0 : Hp w [(w.heap.size, 55, [.int .i8 n0, .int .i8 n1, .int .i8 n2, .int .u8 dp]), (w.heap.size + 1, 55, [.int .i8 m0, .int .i8 m1, .int .i8 m2, .int .u8 dq])] ((w.alloc (.cells #[.int .i8 n0, .int .i8 n1, .int .i8 n2, .int .u8 dp] 55)).alloc (.cells #[.int .i8 m0, .int .i8 m1, .int .i8 m2, .int .u8 dq] 55)) := by
    have h := ((Hp.start w).new 55 [.int .i8 n0, .int .i8 n1, .int .i8 n2, .int .u8 dp]).new 55 [.int .i8 m0, .int .i8 m1, .int .i8 m2, .int .u8 dq]
    simp only [World.size_alloc] at h
    exact h
  have HM0 := Lib.hid hM0
  clear ht h0 h1 h2 hdp k0 k1 k2 hdq hnn hD hE hr hkk bD bE bK hM bM oA oB rA rB pA pB bL bJ lA lB u0 u1 u2 v0 v1 v2 hk1 hcm' hX hY hmono hcp hca hcb hsc hsc' had hP hfa hmp hmq heq1 hM0 cc0 cc1 cc2 ha0 ha1 ha2 hb0 hb1 hb2 hc0 hc1 hc2 hd0 hd1 hd2 hf0 hf1 hf2 hg0 hg1 hg2
  go_enter Tryd.func6, Tryd.ntmps6
  go_wp2_with fail
  refine (lknown_any _ (HT.out.below HM0.out.below)).mono ?_
  rintro e w1 ⟨rfl, hb⟩
  have HM1 := Lib.hid (show Hp w [(w.heap.size, 55, [.int .i8 n0, .int .i8 n1, .int .i8 n2, .int .u8 dp]), (w.heap.size + 1, 55, [.int .i8 m0, .int .i8 m1, .int .i8 m2, .int .u8 dq])] _ from (HM0.out.step hb))
  obtain ⟨k0_0, k0_1, k0_2, k0_3⟩ := four_of (HM1.out.at_ 0 rfl)
  clear hb HM0
  go_wp2_with fail
  refine (HMP.out _).mono ?_
  rintro e w2 ⟨rfl, hb⟩
  have HM2 := Lib.hid (show Hp w [(w.heap.size, 55, [.int .i8 n0, .int .i8 n1, .int .i8 n2, .int .u8 dp]), (w.heap.size + 1, 55, [.int .i8 m0, .int .i8 m1, .int .i8 m2, .int .u8 dq]), (w2.heap.size, 28, [.int .i64 a0, .int .i64 b0, .int .i64 a1, .int .i64 b1, .int .i64 a2, .int .i64 b2])] _ from (HM1.out.step hb).new 28 [.int .i64 a0, .int .i64 b0, .int .i64 a1, .int .i64 b1, .int .i64 a2, .int .i64 b2])
  clear hb HM1 k0_0 k0_1 k0_2 k0_3
  go_wp2_with fail
  simp only [hwK]
  refine (HSC.out _).mono ?_
  rintro e w3 ⟨rfl, hb⟩
  have HM3 := Lib.hid (show Hp w [(w.heap.size, 55, [.int .i8 n0, .int .i8 n1, .int .i8 n2, .int .u8 dp]), (w.heap.size + 1, 55, [.int .i8 m0, .int .i8 m1, .int .i8 m2, .int .u8 dq]), (w2.heap.size, 28, [.int .i64 a0, .int .i64 b0, .int .i64 a1, .int .i64 b1, .int .i64 a2, .int .i64 b2])] _ from HM2.out.step hb)
  have HM4 := Lib.hid (show Hp w [(w.heap.size, 55, [.int .i8 n0, .int .i8 n1, .int .i8 n2, .int .u8 dp]), (w.heap.size + 1, 55, [.int .i8 m0, .int .i8 m1, .int .i8 m2, .int .u8 dq]), (w2.heap.size, 28, [.int .i64 a0, .int .i64 b0, .int .i64 a1, .int .i64 b1, .int .i64 a2, .int .i64 b2]), (w3.heap.size, 28, [.int .i64 (f0 1), .int .i64 (g0 1), .int .i64 (f1 1), .int .i64 (g1 1), .int .i64 (f2 1), .int .i64 (g2 1)]), (w3.heap.size + 1, 28, [.int .i64 (f0 1), .int .i64 (g0 1), .int .i64 (f1 1), .int .i64 (g1 1), .int .i64 (f2 1), .int .i64 (g2 1)])] ((w3.alloc (.cells #[.int .i64 (f0 1), .int .i64 (g0 1), .int .i64 (f1 1), .int .i64 (g1 1), .int .i64 (f2 1), .int .i64 (g2 1)] 28)).alloc (.cells #[.int .i64 (f0 1), .int .i64 (g0 1), .int .i64 (f1 1), .int .i64 (g1 1), .int .i64 (f2 1), .int .i64 (g2 1)] 28)) from by
    have h := (HM3.out.new 28 [.int .i64 (f0 1), .int .i64 (g0 1), .int .i64 (f1 1), .int .i64 (g1 1), .int .i64 (f2 1), .int .i64 (g2 1)]).new 28 [.int .i64 (f0 1), .int .i64 (g0 1), .int .i64 (f1 1), .int .i64 (g1 1), .int .i64 (f2 1), .int .i64 (g2 1)]
    simp only [World.size_alloc] at h
    exact h)
  clear hb HM2 HM3 hrm hwK 
  go_wp2_with fail
  go_loopw [10, 12] (fun e i wr => PtRel w w2.heap.size w3.heap.size (w3.heap.size + 1) kk n0 n1 n2 dp m0 m1 m2 dq a0 b0 a1 b1 a2 b2 f0 g0 f1 g1 f2 g2 e i wr) (fun _ i _ => kk - (intOf i).toNat)
  case atStart => exact ⟨rfl, 1, by omega, HK.out.1, rfl, HM4.out⟩
  case round =>
    clear HM4
    obtain ⟨rfl, j, hj1, hj2, rfl, hm⟩ := hrel
    have HM := Lib.hid hm
    clear hm
    by_cases hlt : j < kk
    · have hlt2 : (j : Int) < (kk : Int) := by omega
      have hk12 := HK.out.2
      have HA2 := Lib.hid (fun W => HAD.out j W (by omega))
      obtain ⟨s0, s1, s2, s3, s4, s5⟩ := six_of (HM.out.at_ 4 rfl)
      obtain ⟨t0, t1, t2, t3, t4, t5⟩ := six_of (HM.out.at_ 3 rfl)
      clear hk12
      go_wp2_with fail
      refine (HA2.out _).mono ?_
      rintro e w5 ⟨rfl, hb⟩
      have HM5 := Lib.hid (HM.out.step hb)
      clear hb HM s0 s1 s2 s3 s4 s5 t0 t1 t2 t3 t4 t5
      obtain ⟨s0, s1, s2, s3, s4, s5⟩ := six_of (HM5.out.at_ 4 rfl)
      obtain ⟨t0, t1, t2, t3, t4, t5⟩ := six_free (HM5.out.at_ 4 rfl)
      have HRL := Lib.hid (show PtRel w w2.heap.size w3.heap.size (w3.heap.size + 1) kk n0 n1 n2 dp m0 m1 m2 dq a0 b0 a1 b1 a2 b2 f0 g0 f1 g1 f2 g2 (.int .i64 0) (.int .i64 ((j : Int) + 1)) ((((((w5.setCell ⟨w3.heap.size + 1, 0, none⟩ (.int .i64 (f0 (j + 1)))).setCell ⟨w3.heap.size + 1, 1, none⟩ (.int .i64 (g0 (j + 1)))).setCell ⟨w3.heap.size + 1, 2, none⟩ (.int .i64 (f1 (j + 1)))).setCell ⟨w3.heap.size + 1, 3, none⟩ (.int .i64 (g1 (j + 1)))).setCell ⟨w3.heap.size + 1, 4, none⟩ (.int .i64 (f2 (j + 1)))).setCell ⟨w3.heap.size + 1, 5, none⟩ (.int .i64 (g2 (j + 1)))) from ⟨rfl, j + 1, by omega, by omega, rfl, HM5.out.put6 4 rfl (.int .i64 (f0 (j + 1))) (.int .i64 (g0 (j + 1))) (.int .i64 (f1 (j + 1))) (.int .i64 (g1 (j + 1))) (.int .i64 (f2 (j + 1))) (.int .i64 (g2 (j + 1)))⟩)
      have HLT := Lib.hid hlt
      have hwj : wrap64 ((j : Int) + 1) = (j : Int) + 1 := IntWalk.wrap64_in _ ⟨by omega, by have := HK.out.2; omega⟩
      go_wp2_with fail
      simp only [hwj]
      clear hwj
      go_roundw
      case rel => exact HRL.out
      case measure =>
        have h := HLT.out
        clear HLT HRL HM5 HMP HMQ HSC HAD HCP HCA HCB HFA HMO HEQ HT HA2
        simp [intOf]
        omega
    · have hlt2 : ¬ ((j : Int) < (kk : Int)) := by omega
      obtain rfl : j = kk := by omega
      obtain ⟨⟨q0, q1⟩, ⟨q2, q3⟩, q4, q5⟩ := HFA.out
      have hm := HM.out
      rw [q0, q1, q2, q3, q4, q5] at hm
      obtain ⟨w6, hw6⟩ : ∃ w6, w6 = wr := ⟨_, rfl⟩
      rw [← hw6] at hm ⊢
      have HM6 := Lib.hid hm
      clear hm HM q0 q1 q2 q3 q4 q5 HFA hw6 hlt
      obtain ⟨y0, y1, y2, y3⟩ := four_of' (HM6.out.at_ 1 rfl)
      go_wp2_with fail
      refine (HMQ.out _).mono ?_
      rintro e w7 ⟨rfl, hb⟩
      obtain ⟨k1_0, k1_1, k1_2, k1_3, k1_4, k1_5⟩ := six_of ((HM6.out.step hb).at_ 2 rfl)
      have lt2 := ((HM6.out.step hb).at_ 2 rfl).lt
      have HM7 := Lib.hid (show Hp w [(w.heap.size, 55, [.int .i8 n0, .int .i8 n1, .int .i8 n2, .int .u8 dp]), (w.heap.size + 1, 55, [.int .i8 m0, .int .i8 m1, .int .i8 m2, .int .u8 dq]), (w2.heap.size, 28, [.int .i64 a0, .int .i64 b0, .int .i64 a1, .int .i64 b1, .int .i64 a2, .int .i64 b2]), (w3.heap.size, 28, [.int .i64 (f0 1), .int .i64 (g0 1), .int .i64 (f1 1), .int .i64 (g1 1), .int .i64 (f2 1), .int .i64 (g2 1)]), (w3.heap.size + 1, 28, [.int .i64 a0, .int .i64 b0, .int .i64 a1, .int .i64 b1, .int .i64 a2, .int .i64 b2]), (w7.heap.size, 28, [.int .i64 c0, .int .i64 d0, .int .i64 c1, .int .i64 d1, .int .i64 c2, .int .i64 d2])] _ from (HM6.out.step hb).new 28 [.int .i64 c0, .int .i64 d0, .int .i64 c1, .int .i64 d1, .int .i64 c2, .int .i64 d2])
      clear hb HM6 y0 y1 y2 y3
      go_wp2_with fail
      refine (HCP.out _ (HT.out.below HM7.out.below)).mono ?_
      rintro e w8 ⟨rfl, hb⟩
      have HM8 := Lib.hid (show Hp w [(w.heap.size, 55, [.int .i8 n0, .int .i8 n1, .int .i8 n2, .int .u8 dp]), (w.heap.size + 1, 55, [.int .i8 m0, .int .i8 m1, .int .i8 m2, .int .u8 dq]), (w2.heap.size, 28, [.int .i64 a0, .int .i64 b0, .int .i64 a1, .int .i64 b1, .int .i64 a2, .int .i64 b2]), (w3.heap.size, 28, [.int .i64 (f0 1), .int .i64 (g0 1), .int .i64 (f1 1), .int .i64 (g1 1), .int .i64 (f2 1), .int .i64 (g2 1)]), (w3.heap.size + 1, 28, [.int .i64 a0, .int .i64 b0, .int .i64 a1, .int .i64 b1, .int .i64 a2, .int .i64 b2]), (w7.heap.size, 28, [.int .i64 c0, .int .i64 d0, .int .i64 c1, .int .i64 d1, .int .i64 c2, .int .i64 d2])] _ from HM7.out.step hb)
      obtain ⟨k2_0, k2_1, k2_2, k2_3, k2_4, k2_5⟩ := six_of (HM8.out.at_ 2 rfl)
      clear hb HM7 k1_0 k1_1 k1_2 k1_3 k1_4 k1_5 lt2
      go_wp2_with fail
      refine (HCA.out _ (HT.out.below HM8.out.below)).mono ?_
      rintro e w9 ⟨rfl, hb⟩
      have HM9 := Lib.hid (show Hp w [(w.heap.size, 55, [.int .i8 n0, .int .i8 n1, .int .i8 n2, .int .u8 dp]), (w.heap.size + 1, 55, [.int .i8 m0, .int .i8 m1, .int .i8 m2, .int .u8 dq]), (w2.heap.size, 28, [.int .i64 a0, .int .i64 b0, .int .i64 a1, .int .i64 b1, .int .i64 a2, .int .i64 b2]), (w3.heap.size, 28, [.int .i64 (f0 1), .int .i64 (g0 1), .int .i64 (f1 1), .int .i64 (g1 1), .int .i64 (f2 1), .int .i64 (g2 1)]), (w3.heap.size + 1, 28, [.int .i64 a0, .int .i64 b0, .int .i64 a1, .int .i64 b1, .int .i64 a2, .int .i64 b2]), (w7.heap.size, 28, [.int .i64 c0, .int .i64 d0, .int .i64 c1, .int .i64 d1, .int .i64 c2, .int .i64 d2])] _ from (HM8.out.step hb))
      obtain ⟨k3_0, k3_1, k3_2, k3_3, k3_4, k3_5⟩ := six_of (HM9.out.at_ 5 rfl)
      clear hb HM8 k2_0 k2_1 k2_2 k2_3 k2_4 k2_5
      go_wp2_with fail
      refine (HCB.out _ (HT.out.below HM9.out.below)).mono ?_
      rintro e w10 ⟨rfl, hb⟩
      have HM10 := Lib.hid (show Hp w [(w.heap.size, 55, [.int .i8 n0, .int .i8 n1, .int .i8 n2, .int .u8 dp]), (w.heap.size + 1, 55, [.int .i8 m0, .int .i8 m1, .int .i8 m2, .int .u8 dq]), (w2.heap.size, 28, [.int .i64 a0, .int .i64 b0, .int .i64 a1, .int .i64 b1, .int .i64 a2, .int .i64 b2]), (w3.heap.size, 28, [.int .i64 (f0 1), .int .i64 (g0 1), .int .i64 (f1 1), .int .i64 (g1 1), .int .i64 (f2 1), .int .i64 (g2 1)]), (w3.heap.size + 1, 28, [.int .i64 a0, .int .i64 b0, .int .i64 a1, .int .i64 b1, .int .i64 a2, .int .i64 b2]), (w7.heap.size, 28, [.int .i64 c0, .int .i64 d0, .int .i64 c1, .int .i64 d1, .int .i64 c2, .int .i64 d2])] _ from (HM9.out.step hb))
      obtain ⟨k4_0, k4_1, k4_2, k4_3, k4_4, k4_5⟩ := six_of (HM10.out.at_ 4 rfl)
      obtain ⟨k5_0, k5_1, k5_2, k5_3, k5_4, k5_5⟩ := six_of (HM10.out.at_ 2 rfl)
      clear hb HM9 k3_0 k3_1 k3_2 k3_3 k3_4 k3_5
      have heq := HEQ.out
      obtain ⟨hm1, hm2⟩ := HMO.out
      rcases Int.lt_trichotomy cm 0 with h | h | h
      · have h' : ¬ (0 < cm) := by omega
        have hy : X ≤ Y := hm2.resolve_left h'
        clear hm1 hm2
        go_wp2
        go_ret
        exact ⟨rfl, HM10.out.below⟩
      · have h1' : ¬ (cm < 0) := by omega
        have h2' : ¬ (0 < cm) := by omega
        have hx : Y ≤ X := hm1.resolve_left h1'
        have hy : X ≤ Y := hm2.resolve_left h2'
        clear hm1 hm2 h
        go_wp2
        go_ret
        exact ⟨rfl, HM10.out.below⟩
      · have h' : ¬ (cm < 0) := by omega
        have hx : Y ≤ X := hm1.resolve_left h'
        clear hm1 hm2
        go_wp2
        go_ret
        exact ⟨rfl, HM10.out.below⟩
end Go.Proofs.YtplonkeipdbchaaDoor
