/- Law IntervalScales: the walk. Conditions: parts are ints; the library's table of powers of ten reads as its text lays it. Printed by genscaleslaw.py. -/
import Derived.Test.YtplonkeipdbchaaDoorIvAdd
import Derived.Test.YtplonkeipdbchaaDoorLaw05
import Derived.Test.YtplonkeipdbchaaDoorKnown05
import Derived.Test.YtplonkeipdbchaaDoorIvSign
import Derived.Test.YtplonkeipdbchaaDoorRegE
namespace Go.Proofs.YtplonkeipdbchaaDoor
open Go.RowKit

theorem scales_mem (a0 b0 a1 b1 a2 b2 kn kd : Int) (w : World) : Hp w [(w.heap.size, 28, [.int .i64 a0, .int .i64 b0, .int .i64 a1, .int .i64 b1, .int .i64 a2, .int .i64 b2]), (w.heap.size + 1, 26, [.int .i64 kn, .int .i64 kd])] ((w.alloc (.cells #[.int .i64 a0, .int .i64 b0, .int .i64 a1, .int .i64 b1, .int .i64 a2, .int .i64 b2] 28)).alloc (.cells #[.int .i64 kn, .int .i64 kd] 26)) := by
  have h := ((Hp.start w).new 28 [.int .i64 a0, .int .i64 b0, .int .i64 a1, .int .i64 b1, .int .i64 a2, .int .i64 b2]).new 26 [.int .i64 kn, .int .i64 kd]
  simp only [World.size_alloc] at h
  exact h
theorem scale_cross {x D a b kn kd : Int} (h : x * b = a * D) : (x * kn) * (b * kd) = (a * kn) * (D * kd) := by
  have e1 : (x * kn) * (b * kd) = (x * b) * (kn * kd) := by simp only [Int.mul_comm, Int.mul_left_comm]
  have e2 : (a * kn) * (D * kd) = (a * D) * (kn * kd) := by simp only [Int.mul_comm, Int.mul_left_comm]
  rw [e1, e2, h]
/-- What the law's loops carry. -/
def ScR1 (w : World) (L : List (Nat × TypeId × List Value)) (g : Nat) (m0 m1 m2 DK : Int) (i : Value) (W : World) : Prop :=
  ∃ k : Nat, k ≤ 3 ∧ i = .int .i64 (k : Int) ∧ Hp w (L ++ [(g, 34, [.int .i64 (if 0 < k then m0 else 0), .int .i64 (if 1 < k then m1 else 0), .int .i64 (if 2 < k then m2 else 0), .int .i64 DK])]) W
def ScR2 (w : World) (L : List (Nat × TypeId × List Value)) (i : Value) (W : World) : Prop :=
  ∃ k : Nat, k ≤ 3 ∧ i = .int .i64 (k : Int) ∧ Hp w L W
set_option maxRecDepth 100000 in
set_option maxHeartbeats 16000000 in
/-- The size is wrong. -/
theorem lscales_err (a0 b0 a1 b1 a2 b2 kn kd : Int) (w : World) (ht : Tab w) (h : ivE [(a0, b0), (a1, b1), (a2, b2)] ≠ 0) :
    Calls Tryd.prog 4 #[szv a0 b0 a1 b1 a2 b2, .agg #[.int .i64 kn, .int .i64 kd]] w fun e w' => e = .returned (.bool true) ∧ Below w.heap.size w w' := by
  have HM0 := Lib.hid (scales_mem a0 b0 a1 b1 a2 b2 kn kd w)
  have HT := Lib.hid ht
  have hra := fun W => lread_any a0 b0 a1 b1 a2 b2 W
  obtain ⟨xa, xb, xc, xd, hxv, _, _⟩ := rdV_form a0 b0 a1 b1 a2 b2
  rw [hxv] at hra
  obtain ⟨r1, hr1⟩ : ∃ r, r = ivE [(a0, b0), (a1, b1), (a2, b2)] := ⟨_, rfl⟩
  rw [← hr1] at hra h
  have hz2 : (r1 != 0) = true := by simpa using h
  have HRA := Lib.hid hra
  clear ht hra hxv hr1 h
  go_enter Tryd.func4, Tryd.ntmps4
  go_wp2_with fail
  refine (HRA.out _).mono ?_
  rintro e w1 ⟨rfl, hb⟩
  have HM1 := Lib.hid (show Hp w [(w.heap.size, 28, [.int .i64 a0, .int .i64 b0, .int .i64 a1, .int .i64 b1, .int .i64 a2, .int .i64 b2]), (w.heap.size + 1, 26, [.int .i64 kn, .int .i64 kd]), (w1.heap.size, 34, [.int .i64 xa, .int .i64 xb, .int .i64 xc, .int .i64 xd])] _ from (HM0.out.step hb).new 34 [.int .i64 xa, .int .i64 xb, .int .i64 xc, .int .i64 xd])
  clear hb HM0
  go_wp2_with fail
  refine (lknown_any _ (HT.out.below HM1.out.below)).mono ?_
  rintro e w2 ⟨rfl, hb⟩
  have HM2 := Lib.hid (show Hp w [(w.heap.size, 28, [.int .i64 a0, .int .i64 b0, .int .i64 a1, .int .i64 b1, .int .i64 a2, .int .i64 b2]), (w.heap.size + 1, 26, [.int .i64 kn, .int .i64 kd]), (w1.heap.size, 34, [.int .i64 xa, .int .i64 xb, .int .i64 xc, .int .i64 xd])] _ from (HM1.out.step hb))
  clear hb HM1
  go_wp2_with fail
  refine (lknown_any _ (HT.out.below HM2.out.below)).mono ?_
  rintro e w3 ⟨rfl, hb⟩
  have HM3 := Lib.hid (show Hp w [(w.heap.size, 28, [.int .i64 a0, .int .i64 b0, .int .i64 a1, .int .i64 b1, .int .i64 a2, .int .i64 b2]), (w.heap.size + 1, 26, [.int .i64 kn, .int .i64 kd]), (w1.heap.size, 34, [.int .i64 xa, .int .i64 xb, .int .i64 xc, .int .i64 xd])] _ from (HM2.out.step hb))
  clear hb HM2
  go_wp2
  go_ret
  exact ⟨rfl, HM3.out.below⟩
set_option maxRecDepth 100000 in
set_option maxHeartbeats 16000000 in
/-- The size is right, the fraction is not. -/
theorem lscales_num (a0 b0 a1 b1 a2 b2 kn kd : Int) (w : World) (ht : Tab w) (h1 : ivE [(a0, b0), (a1, b1), (a2, b2)] = 0) (i1 : I64 kn) (i2 : I64 kd) (hk : ¬ Right kn kd) :
    Calls Tryd.prog 4 #[szv a0 b0 a1 b1 a2 b2, .agg #[.int .i64 kn, .int .i64 kd]] w fun e w' => e = .returned (.bool true) ∧ Below w.heap.size w w' := by
  have HM0 := Lib.hid (scales_mem a0 b0 a1 b1 a2 b2 kn kd w)
  have HT := Lib.hid ht
  have hra := fun W => lread_any a0 b0 a1 b1 a2 b2 W
  obtain ⟨x0, x1, x2, D, hxv, hxp, _⟩ := rdV_form a0 b0 a1 b1 a2 b2
  rw [hxv, h1] at hra
  replace hxp := hxp h1
  have hsc := fun W => iScale_num a0 b0 a1 b1 a2 b2 kn kd W h1 i1 i2 hk
  have hrf := fun W => rightFraction_any kn kd W
  rw [rightB_no hk] at hrf
  have heq := fun W => eql_size W 0 0 0 0 0 0 0 0 0 0 0 0
  simp only [szB_self] at heq
  have HRA := Lib.hid hra
  have HSC := Lib.hid hsc
  have HRF := Lib.hid hrf
  clear ht hra hsc hrf hxv hxp h1 i1 i2 hk
  go_enter Tryd.func4, Tryd.ntmps4
  go_wp2_with fail
  refine (HRA.out _).mono ?_
  rintro e w1 ⟨rfl, hb⟩
  have HM1 := Lib.hid (show Hp w [(w.heap.size, 28, [.int .i64 a0, .int .i64 b0, .int .i64 a1, .int .i64 b1, .int .i64 a2, .int .i64 b2]), (w.heap.size + 1, 26, [.int .i64 kn, .int .i64 kd]), (w1.heap.size, 34, [.int .i64 x0, .int .i64 x1, .int .i64 x2, .int .i64 D])] _ from (HM0.out.step hb).new 34 [.int .i64 x0, .int .i64 x1, .int .i64 x2, .int .i64 D])
  clear hb HM0
  go_wp2_with fail
  refine (lknown_any _ (HT.out.below HM1.out.below)).mono ?_
  rintro e w2 ⟨rfl, hb⟩
  have HM2 := Lib.hid (show Hp w [(w.heap.size, 28, [.int .i64 a0, .int .i64 b0, .int .i64 a1, .int .i64 b1, .int .i64 a2, .int .i64 b2]), (w.heap.size + 1, 26, [.int .i64 kn, .int .i64 kd]), (w1.heap.size, 34, [.int .i64 x0, .int .i64 x1, .int .i64 x2, .int .i64 D])] _ from (HM1.out.step hb))
  obtain ⟨k0_0, k0_1, k0_2, k0_3, k0_4, k0_5⟩ := six_of (HM2.out.at_ 0 rfl)
  obtain ⟨k1_0, k1_1⟩ := (⟨(HM2.out.at_ 1 rfl).cell 0, (HM2.out.at_ 1 rfl).cell 1⟩ : _ ∧ _)
  clear hb HM1
  go_wp2_with fail
  refine (HSC.out _).mono ?_
  rintro e w3 ⟨rfl, hb⟩
  obtain ⟨k2_0, k2_1⟩ := (⟨((HM2.out.step hb).at_ 1 rfl).cell 0, ((HM2.out.step hb).at_ 1 rfl).cell 1⟩ : _ ∧ _)
  have lt3 := ((HM2.out.step hb).at_ 1 rfl).lt
  have HM3 := Lib.hid (show Hp w [(w.heap.size, 28, [.int .i64 a0, .int .i64 b0, .int .i64 a1, .int .i64 b1, .int .i64 a2, .int .i64 b2]), (w.heap.size + 1, 26, [.int .i64 kn, .int .i64 kd]), (w1.heap.size, 34, [.int .i64 x0, .int .i64 x1, .int .i64 x2, .int .i64 D]), (w3.heap.size, 28, [.int .i64 0, .int .i64 0, .int .i64 0, .int .i64 0, .int .i64 0, .int .i64 0])] _ from (HM2.out.step hb).new 28 [.int .i64 0, .int .i64 0, .int .i64 0, .int .i64 0, .int .i64 0, .int .i64 0])
  clear hb HM2 k0_0 k0_1 k0_2 k0_3 k0_4 k0_5 k1_0 k1_1
  go_wp2_with fail
  refine (HRF.out _).mono ?_
  rintro e w4 ⟨rfl, hb⟩
  have HM4 := Lib.hid (show Hp w [(w.heap.size, 28, [.int .i64 a0, .int .i64 b0, .int .i64 a1, .int .i64 b1, .int .i64 a2, .int .i64 b2]), (w.heap.size + 1, 26, [.int .i64 kn, .int .i64 kd]), (w1.heap.size, 34, [.int .i64 x0, .int .i64 x1, .int .i64 x2, .int .i64 D]), (w3.heap.size, 28, [.int .i64 0, .int .i64 0, .int .i64 0, .int .i64 0, .int .i64 0, .int .i64 0])] _ from (HM3.out.step hb))
  obtain ⟨k3_0, k3_1, k3_2, k3_3, k3_4, k3_5⟩ := six_of (HM4.out.at_ 3 rfl)
  clear hb HM3 k2_0 k2_1 lt3
  go_wp2
  go_ret
  exact ⟨rfl, HM4.out.below⟩
set_option maxRecDepth 100000 in
set_option maxHeartbeats 16000000 in
/-- Both are right. -/
theorem lscales_ok (a0 b0 a1 b1 a2 b2 kn kd : Int) (w : World) (ht : Tab w) (h1 : ivE [(a0, b0), (a1, b1), (a2, b2)] = 0) (hk : Right kn kd) :
    Calls Tryd.prog 4 #[szv a0 b0 a1 b1 a2 b2, .agg #[.int .i64 kn, .int .i64 kd]] w fun e w' => e = .returned (.bool true) ∧ Below w.heap.size w w' := by
  have HM0 := Lib.hid (scales_mem a0 b0 a1 b1 a2 b2 kn kd w)
  have HT := Lib.hid ht
  have hra := fun W => lread_any a0 b0 a1 b1 a2 b2 W
  obtain ⟨x0, x1, x2, D, hxv, hxp, _⟩ := rdV_form a0 b0 a1 b1 a2 b2
  rw [hxv, h1] at hra
  replace hxp := hxp h1
  have hsc := fun W => iScale_any a0 b0 a1 b1 a2 b2 kn kd W h1 hk
  have hrf := fun W => rightFraction_any kn kd W
  rw [rightB_ok hk] at hrf
  obtain ⟨ra, rb, rc⟩ := ivE_right h1
  have hA : ∀ q ∈ [(a0, b0), (a1, b1), (a2, b2)], Right q.1 q.2 := by
    intro q hq
    simp only [List.mem_cons, List.not_mem_nil, or_false] at hq
    rcases hq with rfl | rfl | rfl
    · exact ra
    · exact rb
    · exact rc
  obtain ⟨hD, hl⟩ := prt_num hxp (right_mild hA)
  have bx0 := hl x0 (by simp)
  have bx1 := hl x1 (by simp)
  have bx2 := hl x2 (by simp)
  obtain ⟨e0, e1, e2⟩ := prt_rat hA hxp
  obtain ⟨⟨k1, k2⟩, k3, k4⟩ := right_bd hk
  have kp := hk.1
  have mD := mul_bd (a := D) (b := kd) (by omega) (by omega) (by omega) (by omega)
  have hDK : 0 < D * kd := Int.mul_pos (by omega) kp
  have hwD : IntKind.i64.wrap (D * kd) = D * kd := IntWalk.i64_in _ (by omega)
  have m0b := mul_bd (a := x0) (b := kn) (by omega) (by omega) k1 k2
  have hw0 : IntKind.i64.wrap (x0 * kn) = x0 * kn := IntWalk.i64_in _ (by omega)
  have c0 := low_cross (n := x0 * kn) (d := D * kd) (m := a0 * kn) (e := b0 * kd) hDK (Int.mul_pos ra.1 kp) (scale_cross e0)
  have m1b := mul_bd (a := x1) (b := kn) (by omega) (by omega) k1 k2
  have hw1 : IntKind.i64.wrap (x1 * kn) = x1 * kn := IntWalk.i64_in _ (by omega)
  have c1 := low_cross (n := x1 * kn) (d := D * kd) (m := a1 * kn) (e := b1 * kd) hDK (Int.mul_pos rb.1 kp) (scale_cross e1)
  have m2b := mul_bd (a := x2) (b := kn) (by omega) (by omega) k1 k2
  have hw2 : IntKind.i64.wrap (x2 * kn) = x2 * kn := IntWalk.i64_in _ (by omega)
  have c2 := low_cross (n := x2 * kn) (d := D * kd) (m := a2 * kn) (e := b2 * kd) hDK (Int.mul_pos rc.1 kp) (scale_cross e2)
  have hwr := fun W => write_any (x0 * kn) (x1 * kn) (x2 * kn) (D * kd) W (by omega) (by omega) (by omega) hDK (by omega)
  have hrt := fun W => lright_any (x0 * kn) (x1 * kn) (x2 * kn) (D * kd) W (by omega) (by omega) (by omega) hDK (by omega)
  rw [c0.1, c0.2, c1.1, c1.2, c2.1, c2.2] at hwr hrt
  obtain ⟨DK, hdk⟩ : ∃ m, m = D * kd := ⟨_, rfl⟩
  rw [← hdk] at hwr hrt
  have HWD := Lib.hid (show IntKind.i64.wrap (D * kd) = DK by rw [hdk]; exact hwD)
  obtain ⟨m0, hm0⟩ : ∃ m, m = x0 * kn := ⟨_, rfl⟩
  rw [← hm0] at hwr hrt
  have HW0 := Lib.hid (show IntKind.i64.wrap (x0 * kn) = m0 by rw [hm0]; exact hw0)
  obtain ⟨p0, hp0⟩ : ∃ p, p = lowN (a0 * kn) (b0 * kd) := ⟨_, rfl⟩
  obtain ⟨q0, hq0⟩ : ∃ p, p = lowD (a0 * kn) (b0 * kd) := ⟨_, rfl⟩
  rw [← hp0, ← hq0] at hwr hrt hsc
  obtain ⟨m1, hm1⟩ : ∃ m, m = x1 * kn := ⟨_, rfl⟩
  rw [← hm1] at hwr hrt
  have HW1 := Lib.hid (show IntKind.i64.wrap (x1 * kn) = m1 by rw [hm1]; exact hw1)
  obtain ⟨p1, hp1⟩ : ∃ p, p = lowN (a1 * kn) (b1 * kd) := ⟨_, rfl⟩
  obtain ⟨q1, hq1⟩ : ∃ p, p = lowD (a1 * kn) (b1 * kd) := ⟨_, rfl⟩
  rw [← hp1, ← hq1] at hwr hrt hsc
  obtain ⟨m2, hm2⟩ : ∃ m, m = x2 * kn := ⟨_, rfl⟩
  rw [← hm2] at hwr hrt
  have HW2 := Lib.hid (show IntKind.i64.wrap (x2 * kn) = m2 by rw [hm2]; exact hw2)
  obtain ⟨p2, hp2⟩ : ∃ p, p = lowN (a2 * kn) (b2 * kd) := ⟨_, rfl⟩
  obtain ⟨q2, hq2⟩ : ∃ p, p = lowD (a2 * kn) (b2 * kd) := ⟨_, rfl⟩
  rw [← hp2, ← hq2] at hwr hrt hsc
  have hR0 := fun W => rightFraction_any p0 q0 W
  have hR1 := fun W => rightFraction_any p1 q1 W
  have hR2 := fun W => rightFraction_any p2 q2 W
  obtain ⟨s0, s1, s2, s3, s4, s5, sq, hs⟩ := ivR_form p0 q0 p1 q1 p2 q2
  rw [hs] at hsc hrt
  have HS := Lib.hid hs
  have heq1 := fun W => eql_size W s0 s1 s2 s3 s4 s5 s0 s1 s2 s3 s4 s5
  simp only [szB_self] at heq1
  have HEQ1 := Lib.hid heq1
  have heq0 := fun W => eql_size W 0 0 0 0 0 0 0 0 0 0 0 0
  simp only [szB_self] at heq0
  have HEQ0 := Lib.hid heq0
  have HRA := Lib.hid hra
  have HSC := Lib.hid hsc
  have HRF := Lib.hid hrf
  have HWR := Lib.hid hwr
  have HRT := Lib.hid hrt
  have HR0 := Lib.hid hR0
  have HR1 := Lib.hid hR1
  have HR2 := Lib.hid hR2
  clear ht h1 hra hsc hrf hwr hrt hR0 hR1 hR2 hs heq0 heq1 hxv hxp ra rb rc hA hD hl bx0 bx1 bx2 e0 e1 e2 k1 k2 k3 k4 kp mD hDK hwD hdk hw0 hw1 hw2 m0b m1b m2b c0 c1 c2 hm0 hm1 hm2 hp0 hp1 hp2 hq0 hq1 hq2
  go_enter Tryd.func4, Tryd.ntmps4
  go_wp2_with fail
  refine (HRA.out _).mono ?_
  rintro e w1 ⟨rfl, hb⟩
  have HM1 := Lib.hid (show Hp w [(w.heap.size, 28, [.int .i64 a0, .int .i64 b0, .int .i64 a1, .int .i64 b1, .int .i64 a2, .int .i64 b2]), (w.heap.size + 1, 26, [.int .i64 kn, .int .i64 kd]), (w1.heap.size, 34, [.int .i64 x0, .int .i64 x1, .int .i64 x2, .int .i64 D])] _ from (HM0.out.step hb).new 34 [.int .i64 x0, .int .i64 x1, .int .i64 x2, .int .i64 D])
  clear hb HM0
  go_wp2_with fail
  refine (lknown_any _ (HT.out.below HM1.out.below)).mono ?_
  rintro e w2 ⟨rfl, hb⟩
  have HM2 := Lib.hid (show Hp w [(w.heap.size, 28, [.int .i64 a0, .int .i64 b0, .int .i64 a1, .int .i64 b1, .int .i64 a2, .int .i64 b2]), (w.heap.size + 1, 26, [.int .i64 kn, .int .i64 kd]), (w1.heap.size, 34, [.int .i64 x0, .int .i64 x1, .int .i64 x2, .int .i64 D])] _ from (HM1.out.step hb))
  obtain ⟨k0_0, k0_1, k0_2, k0_3, k0_4, k0_5⟩ := six_of (HM2.out.at_ 0 rfl)
  obtain ⟨k1_0, k1_1⟩ := (⟨(HM2.out.at_ 1 rfl).cell 0, (HM2.out.at_ 1 rfl).cell 1⟩ : _ ∧ _)
  clear hb HM1
  go_wp2_with fail
  refine (HSC.out _).mono ?_
  rintro e w3 ⟨rfl, hb⟩
  obtain ⟨k2_0, k2_1⟩ := (⟨((HM2.out.step hb).at_ 1 rfl).cell 0, ((HM2.out.step hb).at_ 1 rfl).cell 1⟩ : _ ∧ _)
  have lt3 := ((HM2.out.step hb).at_ 1 rfl).lt
  have HM3 := Lib.hid (show Hp w [(w.heap.size, 28, [.int .i64 a0, .int .i64 b0, .int .i64 a1, .int .i64 b1, .int .i64 a2, .int .i64 b2]), (w.heap.size + 1, 26, [.int .i64 kn, .int .i64 kd]), (w1.heap.size, 34, [.int .i64 x0, .int .i64 x1, .int .i64 x2, .int .i64 D]), (w3.heap.size, 28, [.int .i64 s0, .int .i64 s1, .int .i64 s2, .int .i64 s3, .int .i64 s4, .int .i64 s5])] _ from (HM2.out.step hb).new 28 [.int .i64 s0, .int .i64 s1, .int .i64 s2, .int .i64 s3, .int .i64 s4, .int .i64 s5])
  clear hb HM2 k0_0 k0_1 k0_2 k0_3 k0_4 k0_5 k1_0 k1_1
  go_wp2_with fail
  refine (HRF.out _).mono ?_
  rintro e w4 ⟨rfl, hb⟩
  have HM4 := Lib.hid (show Hp w [(w.heap.size, 28, [.int .i64 a0, .int .i64 b0, .int .i64 a1, .int .i64 b1, .int .i64 a2, .int .i64 b2]), (w.heap.size + 1, 26, [.int .i64 kn, .int .i64 kd]), (w1.heap.size, 34, [.int .i64 x0, .int .i64 x1, .int .i64 x2, .int .i64 D]), (w3.heap.size, 28, [.int .i64 s0, .int .i64 s1, .int .i64 s2, .int .i64 s3, .int .i64 s4, .int .i64 s5])] _ from HM3.out.step hb)
  obtain ⟨k3_0, k3_1⟩ := (⟨(HM4.out.at_ 1 rfl).cell 0, (HM4.out.at_ 1 rfl).cell 1⟩ : _ ∧ _)
  obtain ⟨k4_0, k4_1, k4_2, k4_3⟩ := four_of (HM4.out.at_ 2 rfl)
  have HM5 := Lib.hid (show Hp w [(w.heap.size, 28, [.int .i64 a0, .int .i64 b0, .int .i64 a1, .int .i64 b1, .int .i64 a2, .int .i64 b2]), (w.heap.size + 1, 26, [.int .i64 kn, .int .i64 kd]), (w1.heap.size, 34, [.int .i64 x0, .int .i64 x1, .int .i64 x2, .int .i64 D]), (w3.heap.size, 28, [.int .i64 s0, .int .i64 s1, .int .i64 s2, .int .i64 s3, .int .i64 s4, .int .i64 s5]), (w4.heap.size, 34, [.int .i64 0, .int .i64 0, .int .i64 0, .int .i64 DK])] _ from HM4.out.new 34 [.int .i64 0, .int .i64 0, .int .i64 0, .int .i64 DK])
  have hwd := HWD.out
  clear hb HM3 k2_0 k2_1 lt3 HWD
  go_wp2_with fail
  clear hwd HM4 k3_0 k3_1 k4_0 k4_1 k4_2 k4_3
  go_loopw [10] (fun i wr => ScR1 w [(w.heap.size, 28, [.int .i64 a0, .int .i64 b0, .int .i64 a1, .int .i64 b1, .int .i64 a2, .int .i64 b2]), (w.heap.size + 1, 26, [.int .i64 kn, .int .i64 kd]), (w1.heap.size, 34, [.int .i64 x0, .int .i64 x1, .int .i64 x2, .int .i64 D]), (w3.heap.size, 28, [.int .i64 s0, .int .i64 s1, .int .i64 s2, .int .i64 s3, .int .i64 s4, .int .i64 s5])] w4.heap.size m0 m1 m2 DK i wr) (fun i _ => 3 - (intOf i).toNat)
  case atStart => exact ⟨0, by omega, rfl, HM5.out⟩
  case round =>
    clear HM5
    obtain ⟨j, hj, rfl, hm⟩ := hrel
    have HM := Lib.hid hm
    clear hm
    by_cases hlt : j < 3
    · rcases (show j = 0 ∨ j = 1 ∨ j = 2 by omega) with rfl | rfl | rfl
      · have HM2 : Hid (Hp w [(w.heap.size, 28, [.int .i64 a0, .int .i64 b0, .int .i64 a1, .int .i64 b1, .int .i64 a2, .int .i64 b2]), (w.heap.size + 1, 26, [.int .i64 kn, .int .i64 kd]), (w1.heap.size, 34, [.int .i64 x0, .int .i64 x1, .int .i64 x2, .int .i64 D]), (w3.heap.size, 28, [.int .i64 s0, .int .i64 s1, .int .i64 s2, .int .i64 s3, .int .i64 s4, .int .i64 s5]), (w4.heap.size, 34, [.int .i64 0, .int .i64 0, .int .i64 0, .int .i64 DK])] wr) := HM.out
        clear HM
        go_wp2_with fail
        have HD : Hid (Hp w [(w.heap.size, 28, [.int .i64 a0, .int .i64 b0, .int .i64 a1, .int .i64 b1, .int .i64 a2, .int .i64 b2]), (w.heap.size + 1, 26, [.int .i64 kn, .int .i64 kd]), (w1.heap.size, 34, [.int .i64 x0, .int .i64 x1, .int .i64 x2, .int .i64 D]), (w3.heap.size, 28, [.int .i64 s0, .int .i64 s1, .int .i64 s2, .int .i64 s3, .int .i64 s4, .int .i64 s5]), (w4.heap.size, 34, [.int .i64 0, .int .i64 0, .int .i64 0, .int .i64 DK])] wr.drew) := Lib.hid HM2.out.drew
        have hS : wr.drew.cell? ⟨w1.heap.size, 0, none⟩ = some (.int .i64 x0) ∧ wr.drew.cell? ⟨w.heap.size + 1, 0, none⟩ = some (.int .i64 kn) := ⟨(HD.out.at_ 2 rfl).cell 0, (HD.out.at_ 1 rfl).cell 0⟩
        have hw0 := HW0.out
        refine wp_regionE' 11 (fun w' => w'.cell? ⟨w1.heap.size, 0, none⟩ = some (.int .i64 x0) ∧ w'.cell? ⟨w.heap.size + 1, 0, none⟩ = some (.int .i64 kn)) 11 #[false, false, false, false, false, false, false, false, false, false, false] (by kernel_rfl) (by kernel_rfl) (by kernel_rfl) ?_
        refine wpAnyE_tk (i := 0) (v := ?_) #[true, false, false, false, false, false, false, false, false, false, false] (some 53) rfl rfl (by kernel_rfl) (by kernel_rfl) (by kernel_rfl) (by kernel_rfl) (by kernel_rfl) (fun _ _ _ h => h) (Or.inl ⟨by rfl, ?_⟩) hS ?_
        rotate_left
        · (intro w hSw; (try dsimp only at hSw); go_simp; all_goals with_reducible rfl)
        simp only [Act.put]
        refine wpAnyE_tk (i := 1) (v := ?_) #[true, true, false, false, false, false, false, false, false, false, false] (some 54) rfl rfl (by kernel_rfl) (by kernel_rfl) (by kernel_rfl) (by kernel_rfl) (by kernel_rfl) (fun _ _ _ h => h) (Or.inl ⟨by rfl, ?_⟩) hS ?_
        rotate_left
        · (intro w hSw; (try dsimp only at hSw); go_simp; all_goals with_reducible rfl)
        simp only [Act.put]
        refine wpAnyE_tk (i := 2) (v := ?_) #[true, true, true, false, false, false, false, false, false, false, false] (some 55) rfl rfl (by kernel_rfl) (by kernel_rfl) (by kernel_rfl) (by kernel_rfl) (by kernel_rfl) (fun _ _ _ h => h) (Or.inl ⟨by rfl, ?_⟩) hS ?_
        rotate_left
        · (intro w hSw; (try dsimp only at hSw); go_simp; all_goals with_reducible rfl)
        simp only [Act.put]
        refine wpAnyE_tk (i := 3) (v := ?_) #[true, true, true, true, false, false, false, false, false, false, false] (some 56) rfl rfl (by kernel_rfl) (by kernel_rfl) (by kernel_rfl) (by kernel_rfl) (by kernel_rfl) (fun _ _ _ h => h) (Or.inl ⟨by rfl, ?_⟩) hS ?_
        rotate_left
        · (intro w hSw; (try dsimp only at hSw); go_simp; all_goals with_reducible rfl)
        simp only [Act.put]
        refine wpAnyE_tk (i := 4) (v := ?_) #[true, true, true, true, true, false, false, false, false, false, false] (some 57) rfl rfl (by kernel_rfl) (by kernel_rfl) (by kernel_rfl) (by kernel_rfl) (by kernel_rfl) (fun _ _ _ h => h) (Or.inl ⟨by rfl, ?_⟩) hS ?_
        rotate_left
        · (intro w hSw; (try dsimp only at hSw); go_simp; all_goals with_reducible rfl)
        simp only [Act.put]
        refine wpAnyE_tk (i := 5) (v := ?_) #[true, true, true, true, true, true, false, false, false, false, false] (some 58) rfl rfl (by kernel_rfl) (by kernel_rfl) (by kernel_rfl) (by kernel_rfl) (by kernel_rfl) (fun _ _ _ h => h) (Or.inl ⟨by rfl, ?_⟩) hS ?_
        rotate_left
        · (intro w hSw; (try dsimp only at hSw); go_simp; all_goals with_reducible rfl)
        simp only [Act.put]
        refine wpAnyE_tk (i := 6) (v := ?_) #[true, true, true, true, true, true, true, false, false, false, false] (some 59) rfl rfl (by kernel_rfl) (by kernel_rfl) (by kernel_rfl) (by kernel_rfl) (by kernel_rfl) (fun _ _ _ h => h) (Or.inl ⟨by rfl, ?_⟩) hS ?_
        rotate_left
        · (intro w hSw; (try dsimp only at hSw); go_simp; all_goals with_reducible rfl)
        simp only [Act.put]
        refine wpAnyE_tk (i := 7) (v := ?_) #[true, true, true, true, true, true, true, true, false, false, false] (some 60) rfl rfl (by kernel_rfl) (by kernel_rfl) (by kernel_rfl) (by kernel_rfl) (by kernel_rfl) (fun _ _ _ h => h) (Or.inl ⟨by rfl, ?_⟩) hS ?_
        rotate_left
        · (intro w hSw; (try dsimp only at hSw); go_simp; all_goals with_reducible rfl)
        simp only [Act.put]
        refine wpAnyE_tk (i := 8) (v := ?_) #[true, true, true, true, true, true, true, true, true, false, false] (some 61) rfl rfl (by kernel_rfl) (by kernel_rfl) (by kernel_rfl) (by kernel_rfl) (by kernel_rfl) (fun _ _ _ h => h) (Or.inl ⟨by rfl, ?_⟩) hS ?_
        rotate_left
        · (intro w hSw; (try dsimp only at hSw); go_simp; all_goals with_reducible rfl)
        simp only [Act.put]
        refine wpAnyE_tk (i := 9) (v := ?_) #[true, true, true, true, true, true, true, true, true, true, false] (some 62) rfl rfl (by kernel_rfl) (by kernel_rfl) (by kernel_rfl) (by kernel_rfl) (by kernel_rfl) (fun _ _ _ h => h) (Or.inl ⟨by rfl, ?_⟩) hS ?_
        rotate_left
        · (intro w hSw; (try dsimp only at hSw); go_simp; all_goals with_reducible rfl)
        simp only [Act.put]
        clear hS hw0
        obtain ⟨WD, hWD⟩ : ∃ X, X = wr.drew := ⟨_, rfl⟩
        rw [← hWD] at HD ⊢
        clear hWD HM2
        have q0' := (HD.out.at_ 4 rfl).cell 0
        have f0' := (HD.out.at_ 4 rfl).frozen 0
        refine wpAnyE_ready (rs := [10]) (by kernel_rfl) (by simp) ?_
        refine AllE.cons' (o := _) #[true, true, true, true, true, true, true, true, true, true, true] rfl (by kernel_rfl) (fun K hK => ?_) AllE.nil
        go_simp
        obtain ⟨X2, hX⟩ : ∃ X, X = WD.setCell ⟨w4.heap.size, 0, none⟩ (.int .i64 m0) := ⟨_, rfl⟩
        rw [← hX]
        have hfin : ScR1 w [(w.heap.size, 28, [.int .i64 a0, .int .i64 b0, .int .i64 a1, .int .i64 b1, .int .i64 a2, .int .i64 b2]), (w.heap.size + 1, 26, [.int .i64 kn, .int .i64 kd]), (w1.heap.size, 34, [.int .i64 x0, .int .i64 x1, .int .i64 x2, .int .i64 D]), (w3.heap.size, 28, [.int .i64 s0, .int .i64 s1, .int .i64 s2, .int .i64 s3, .int .i64 s4, .int .i64 s5])] w4.heap.size m0 m1 m2 DK (.int .i64 ((0 + 1 : Nat) : Int)) X2 := by
          rw [hX]
          exact ⟨0 + 1, by omega, rfl, HD.out.put 4 rfl 0 (.int .i64 m0)⟩
        have HFIN := Lib.hid hfin
        have hs2 : X2.cell? ⟨w1.heap.size, 0, none⟩ = some (.int .i64 x0) ∧ X2.cell? ⟨w.heap.size + 1, 0, none⟩ = some (.int .i64 kn) := by
          rw [hX]
          have h := HD.out.put 4 rfl 0 (.int .i64 m0)
          exact ⟨(h.at_ 2 rfl).cell 0, (h.at_ 1 rfl).cell 0⟩
        refine hK.out _ _ (fun _ => hs2) ?_
        clear hK K hX q0' f0' hfin hs2
        try simp only [Act.put]
        refine wpAnyE_done (by kernel_rfl) ?_ _
        go_wp2_with fail
        go_roundw
        case rel => exact HFIN.out
        case measure => simp [intOf]
      · have HM2 : Hid (Hp w [(w.heap.size, 28, [.int .i64 a0, .int .i64 b0, .int .i64 a1, .int .i64 b1, .int .i64 a2, .int .i64 b2]), (w.heap.size + 1, 26, [.int .i64 kn, .int .i64 kd]), (w1.heap.size, 34, [.int .i64 x0, .int .i64 x1, .int .i64 x2, .int .i64 D]), (w3.heap.size, 28, [.int .i64 s0, .int .i64 s1, .int .i64 s2, .int .i64 s3, .int .i64 s4, .int .i64 s5]), (w4.heap.size, 34, [.int .i64 m0, .int .i64 0, .int .i64 0, .int .i64 DK])] wr) := HM.out
        clear HM
        go_wp2_with fail
        have HD : Hid (Hp w [(w.heap.size, 28, [.int .i64 a0, .int .i64 b0, .int .i64 a1, .int .i64 b1, .int .i64 a2, .int .i64 b2]), (w.heap.size + 1, 26, [.int .i64 kn, .int .i64 kd]), (w1.heap.size, 34, [.int .i64 x0, .int .i64 x1, .int .i64 x2, .int .i64 D]), (w3.heap.size, 28, [.int .i64 s0, .int .i64 s1, .int .i64 s2, .int .i64 s3, .int .i64 s4, .int .i64 s5]), (w4.heap.size, 34, [.int .i64 m0, .int .i64 0, .int .i64 0, .int .i64 DK])] wr.drew) := Lib.hid HM2.out.drew
        have hS : wr.drew.cell? ⟨w1.heap.size, 1, none⟩ = some (.int .i64 x1) ∧ wr.drew.cell? ⟨w.heap.size + 1, 0, none⟩ = some (.int .i64 kn) := ⟨(HD.out.at_ 2 rfl).cell 1, (HD.out.at_ 1 rfl).cell 0⟩
        have hw0 := HW1.out
        refine wp_regionE' 11 (fun w' => w'.cell? ⟨w1.heap.size, 1, none⟩ = some (.int .i64 x1) ∧ w'.cell? ⟨w.heap.size + 1, 0, none⟩ = some (.int .i64 kn)) 11 #[false, false, false, false, false, false, false, false, false, false, false] (by kernel_rfl) (by kernel_rfl) (by kernel_rfl) ?_
        refine wpAnyE_tk (i := 0) (v := ?_) #[true, false, false, false, false, false, false, false, false, false, false] (some 53) rfl rfl (by kernel_rfl) (by kernel_rfl) (by kernel_rfl) (by kernel_rfl) (by kernel_rfl) (fun _ _ _ h => h) (Or.inl ⟨by rfl, ?_⟩) hS ?_
        rotate_left
        · (intro w hSw; (try dsimp only at hSw); go_simp; all_goals with_reducible rfl)
        simp only [Act.put]
        refine wpAnyE_tk (i := 1) (v := ?_) #[true, true, false, false, false, false, false, false, false, false, false] (some 54) rfl rfl (by kernel_rfl) (by kernel_rfl) (by kernel_rfl) (by kernel_rfl) (by kernel_rfl) (fun _ _ _ h => h) (Or.inl ⟨by rfl, ?_⟩) hS ?_
        rotate_left
        · (intro w hSw; (try dsimp only at hSw); go_simp; all_goals with_reducible rfl)
        simp only [Act.put]
        refine wpAnyE_tk (i := 2) (v := ?_) #[true, true, true, false, false, false, false, false, false, false, false] (some 55) rfl rfl (by kernel_rfl) (by kernel_rfl) (by kernel_rfl) (by kernel_rfl) (by kernel_rfl) (fun _ _ _ h => h) (Or.inl ⟨by rfl, ?_⟩) hS ?_
        rotate_left
        · (intro w hSw; (try dsimp only at hSw); go_simp; all_goals with_reducible rfl)
        simp only [Act.put]
        refine wpAnyE_tk (i := 3) (v := ?_) #[true, true, true, true, false, false, false, false, false, false, false] (some 56) rfl rfl (by kernel_rfl) (by kernel_rfl) (by kernel_rfl) (by kernel_rfl) (by kernel_rfl) (fun _ _ _ h => h) (Or.inl ⟨by rfl, ?_⟩) hS ?_
        rotate_left
        · (intro w hSw; (try dsimp only at hSw); go_simp; all_goals with_reducible rfl)
        simp only [Act.put]
        refine wpAnyE_tk (i := 4) (v := ?_) #[true, true, true, true, true, false, false, false, false, false, false] (some 57) rfl rfl (by kernel_rfl) (by kernel_rfl) (by kernel_rfl) (by kernel_rfl) (by kernel_rfl) (fun _ _ _ h => h) (Or.inl ⟨by rfl, ?_⟩) hS ?_
        rotate_left
        · (intro w hSw; (try dsimp only at hSw); go_simp; all_goals with_reducible rfl)
        simp only [Act.put]
        refine wpAnyE_tk (i := 5) (v := ?_) #[true, true, true, true, true, true, false, false, false, false, false] (some 58) rfl rfl (by kernel_rfl) (by kernel_rfl) (by kernel_rfl) (by kernel_rfl) (by kernel_rfl) (fun _ _ _ h => h) (Or.inl ⟨by rfl, ?_⟩) hS ?_
        rotate_left
        · (intro w hSw; (try dsimp only at hSw); go_simp; all_goals with_reducible rfl)
        simp only [Act.put]
        refine wpAnyE_tk (i := 6) (v := ?_) #[true, true, true, true, true, true, true, false, false, false, false] (some 59) rfl rfl (by kernel_rfl) (by kernel_rfl) (by kernel_rfl) (by kernel_rfl) (by kernel_rfl) (fun _ _ _ h => h) (Or.inl ⟨by rfl, ?_⟩) hS ?_
        rotate_left
        · (intro w hSw; (try dsimp only at hSw); go_simp; all_goals with_reducible rfl)
        simp only [Act.put]
        refine wpAnyE_tk (i := 7) (v := ?_) #[true, true, true, true, true, true, true, true, false, false, false] (some 60) rfl rfl (by kernel_rfl) (by kernel_rfl) (by kernel_rfl) (by kernel_rfl) (by kernel_rfl) (fun _ _ _ h => h) (Or.inl ⟨by rfl, ?_⟩) hS ?_
        rotate_left
        · (intro w hSw; (try dsimp only at hSw); go_simp; all_goals with_reducible rfl)
        simp only [Act.put]
        refine wpAnyE_tk (i := 8) (v := ?_) #[true, true, true, true, true, true, true, true, true, false, false] (some 61) rfl rfl (by kernel_rfl) (by kernel_rfl) (by kernel_rfl) (by kernel_rfl) (by kernel_rfl) (fun _ _ _ h => h) (Or.inl ⟨by rfl, ?_⟩) hS ?_
        rotate_left
        · (intro w hSw; (try dsimp only at hSw); go_simp; all_goals with_reducible rfl)
        simp only [Act.put]
        refine wpAnyE_tk (i := 9) (v := ?_) #[true, true, true, true, true, true, true, true, true, true, false] (some 62) rfl rfl (by kernel_rfl) (by kernel_rfl) (by kernel_rfl) (by kernel_rfl) (by kernel_rfl) (fun _ _ _ h => h) (Or.inl ⟨by rfl, ?_⟩) hS ?_
        rotate_left
        · (intro w hSw; (try dsimp only at hSw); go_simp; all_goals with_reducible rfl)
        simp only [Act.put]
        clear hS hw0
        obtain ⟨WD, hWD⟩ : ∃ X, X = wr.drew := ⟨_, rfl⟩
        rw [← hWD] at HD ⊢
        clear hWD HM2
        have q0' := (HD.out.at_ 4 rfl).cell 1
        have f0' := (HD.out.at_ 4 rfl).frozen 1
        refine wpAnyE_ready (rs := [10]) (by kernel_rfl) (by simp) ?_
        refine AllE.cons' (o := _) #[true, true, true, true, true, true, true, true, true, true, true] rfl (by kernel_rfl) (fun K hK => ?_) AllE.nil
        go_simp
        obtain ⟨X2, hX⟩ : ∃ X, X = WD.setCell ⟨w4.heap.size, 1, none⟩ (.int .i64 m1) := ⟨_, rfl⟩
        rw [← hX]
        have hfin : ScR1 w [(w.heap.size, 28, [.int .i64 a0, .int .i64 b0, .int .i64 a1, .int .i64 b1, .int .i64 a2, .int .i64 b2]), (w.heap.size + 1, 26, [.int .i64 kn, .int .i64 kd]), (w1.heap.size, 34, [.int .i64 x0, .int .i64 x1, .int .i64 x2, .int .i64 D]), (w3.heap.size, 28, [.int .i64 s0, .int .i64 s1, .int .i64 s2, .int .i64 s3, .int .i64 s4, .int .i64 s5])] w4.heap.size m0 m1 m2 DK (.int .i64 ((1 + 1 : Nat) : Int)) X2 := by
          rw [hX]
          exact ⟨1 + 1, by omega, rfl, HD.out.put 4 rfl 1 (.int .i64 m1)⟩
        have HFIN := Lib.hid hfin
        have hs2 : X2.cell? ⟨w1.heap.size, 1, none⟩ = some (.int .i64 x1) ∧ X2.cell? ⟨w.heap.size + 1, 0, none⟩ = some (.int .i64 kn) := by
          rw [hX]
          have h := HD.out.put 4 rfl 1 (.int .i64 m1)
          exact ⟨(h.at_ 2 rfl).cell 1, (h.at_ 1 rfl).cell 0⟩
        refine hK.out _ _ (fun _ => hs2) ?_
        clear hK K hX q0' f0' hfin hs2
        try simp only [Act.put]
        refine wpAnyE_done (by kernel_rfl) ?_ _
        go_wp2_with fail
        go_roundw
        case rel => exact HFIN.out
        case measure => simp [intOf]
      · have HM2 : Hid (Hp w [(w.heap.size, 28, [.int .i64 a0, .int .i64 b0, .int .i64 a1, .int .i64 b1, .int .i64 a2, .int .i64 b2]), (w.heap.size + 1, 26, [.int .i64 kn, .int .i64 kd]), (w1.heap.size, 34, [.int .i64 x0, .int .i64 x1, .int .i64 x2, .int .i64 D]), (w3.heap.size, 28, [.int .i64 s0, .int .i64 s1, .int .i64 s2, .int .i64 s3, .int .i64 s4, .int .i64 s5]), (w4.heap.size, 34, [.int .i64 m0, .int .i64 m1, .int .i64 0, .int .i64 DK])] wr) := HM.out
        clear HM
        go_wp2_with fail
        have HD : Hid (Hp w [(w.heap.size, 28, [.int .i64 a0, .int .i64 b0, .int .i64 a1, .int .i64 b1, .int .i64 a2, .int .i64 b2]), (w.heap.size + 1, 26, [.int .i64 kn, .int .i64 kd]), (w1.heap.size, 34, [.int .i64 x0, .int .i64 x1, .int .i64 x2, .int .i64 D]), (w3.heap.size, 28, [.int .i64 s0, .int .i64 s1, .int .i64 s2, .int .i64 s3, .int .i64 s4, .int .i64 s5]), (w4.heap.size, 34, [.int .i64 m0, .int .i64 m1, .int .i64 0, .int .i64 DK])] wr.drew) := Lib.hid HM2.out.drew
        have hS : wr.drew.cell? ⟨w1.heap.size, 2, none⟩ = some (.int .i64 x2) ∧ wr.drew.cell? ⟨w.heap.size + 1, 0, none⟩ = some (.int .i64 kn) := ⟨(HD.out.at_ 2 rfl).cell 2, (HD.out.at_ 1 rfl).cell 0⟩
        have hw0 := HW2.out
        refine wp_regionE' 11 (fun w' => w'.cell? ⟨w1.heap.size, 2, none⟩ = some (.int .i64 x2) ∧ w'.cell? ⟨w.heap.size + 1, 0, none⟩ = some (.int .i64 kn)) 11 #[false, false, false, false, false, false, false, false, false, false, false] (by kernel_rfl) (by kernel_rfl) (by kernel_rfl) ?_
        refine wpAnyE_tk (i := 0) (v := ?_) #[true, false, false, false, false, false, false, false, false, false, false] (some 53) rfl rfl (by kernel_rfl) (by kernel_rfl) (by kernel_rfl) (by kernel_rfl) (by kernel_rfl) (fun _ _ _ h => h) (Or.inl ⟨by rfl, ?_⟩) hS ?_
        rotate_left
        · (intro w hSw; (try dsimp only at hSw); go_simp; all_goals with_reducible rfl)
        simp only [Act.put]
        refine wpAnyE_tk (i := 1) (v := ?_) #[true, true, false, false, false, false, false, false, false, false, false] (some 54) rfl rfl (by kernel_rfl) (by kernel_rfl) (by kernel_rfl) (by kernel_rfl) (by kernel_rfl) (fun _ _ _ h => h) (Or.inl ⟨by rfl, ?_⟩) hS ?_
        rotate_left
        · (intro w hSw; (try dsimp only at hSw); go_simp; all_goals with_reducible rfl)
        simp only [Act.put]
        refine wpAnyE_tk (i := 2) (v := ?_) #[true, true, true, false, false, false, false, false, false, false, false] (some 55) rfl rfl (by kernel_rfl) (by kernel_rfl) (by kernel_rfl) (by kernel_rfl) (by kernel_rfl) (fun _ _ _ h => h) (Or.inl ⟨by rfl, ?_⟩) hS ?_
        rotate_left
        · (intro w hSw; (try dsimp only at hSw); go_simp; all_goals with_reducible rfl)
        simp only [Act.put]
        refine wpAnyE_tk (i := 3) (v := ?_) #[true, true, true, true, false, false, false, false, false, false, false] (some 56) rfl rfl (by kernel_rfl) (by kernel_rfl) (by kernel_rfl) (by kernel_rfl) (by kernel_rfl) (fun _ _ _ h => h) (Or.inl ⟨by rfl, ?_⟩) hS ?_
        rotate_left
        · (intro w hSw; (try dsimp only at hSw); go_simp; all_goals with_reducible rfl)
        simp only [Act.put]
        refine wpAnyE_tk (i := 4) (v := ?_) #[true, true, true, true, true, false, false, false, false, false, false] (some 57) rfl rfl (by kernel_rfl) (by kernel_rfl) (by kernel_rfl) (by kernel_rfl) (by kernel_rfl) (fun _ _ _ h => h) (Or.inl ⟨by rfl, ?_⟩) hS ?_
        rotate_left
        · (intro w hSw; (try dsimp only at hSw); go_simp; all_goals with_reducible rfl)
        simp only [Act.put]
        refine wpAnyE_tk (i := 5) (v := ?_) #[true, true, true, true, true, true, false, false, false, false, false] (some 58) rfl rfl (by kernel_rfl) (by kernel_rfl) (by kernel_rfl) (by kernel_rfl) (by kernel_rfl) (fun _ _ _ h => h) (Or.inl ⟨by rfl, ?_⟩) hS ?_
        rotate_left
        · (intro w hSw; (try dsimp only at hSw); go_simp; all_goals with_reducible rfl)
        simp only [Act.put]
        refine wpAnyE_tk (i := 6) (v := ?_) #[true, true, true, true, true, true, true, false, false, false, false] (some 59) rfl rfl (by kernel_rfl) (by kernel_rfl) (by kernel_rfl) (by kernel_rfl) (by kernel_rfl) (fun _ _ _ h => h) (Or.inl ⟨by rfl, ?_⟩) hS ?_
        rotate_left
        · (intro w hSw; (try dsimp only at hSw); go_simp; all_goals with_reducible rfl)
        simp only [Act.put]
        refine wpAnyE_tk (i := 7) (v := ?_) #[true, true, true, true, true, true, true, true, false, false, false] (some 60) rfl rfl (by kernel_rfl) (by kernel_rfl) (by kernel_rfl) (by kernel_rfl) (by kernel_rfl) (fun _ _ _ h => h) (Or.inl ⟨by rfl, ?_⟩) hS ?_
        rotate_left
        · (intro w hSw; (try dsimp only at hSw); go_simp; all_goals with_reducible rfl)
        simp only [Act.put]
        refine wpAnyE_tk (i := 8) (v := ?_) #[true, true, true, true, true, true, true, true, true, false, false] (some 61) rfl rfl (by kernel_rfl) (by kernel_rfl) (by kernel_rfl) (by kernel_rfl) (by kernel_rfl) (fun _ _ _ h => h) (Or.inl ⟨by rfl, ?_⟩) hS ?_
        rotate_left
        · (intro w hSw; (try dsimp only at hSw); go_simp; all_goals with_reducible rfl)
        simp only [Act.put]
        refine wpAnyE_tk (i := 9) (v := ?_) #[true, true, true, true, true, true, true, true, true, true, false] (some 62) rfl rfl (by kernel_rfl) (by kernel_rfl) (by kernel_rfl) (by kernel_rfl) (by kernel_rfl) (fun _ _ _ h => h) (Or.inl ⟨by rfl, ?_⟩) hS ?_
        rotate_left
        · (intro w hSw; (try dsimp only at hSw); go_simp; all_goals with_reducible rfl)
        simp only [Act.put]
        clear hS hw0
        obtain ⟨WD, hWD⟩ : ∃ X, X = wr.drew := ⟨_, rfl⟩
        rw [← hWD] at HD ⊢
        clear hWD HM2
        have q0' := (HD.out.at_ 4 rfl).cell 2
        have f0' := (HD.out.at_ 4 rfl).frozen 2
        refine wpAnyE_ready (rs := [10]) (by kernel_rfl) (by simp) ?_
        refine AllE.cons' (o := _) #[true, true, true, true, true, true, true, true, true, true, true] rfl (by kernel_rfl) (fun K hK => ?_) AllE.nil
        go_simp
        obtain ⟨X2, hX⟩ : ∃ X, X = WD.setCell ⟨w4.heap.size, 2, none⟩ (.int .i64 m2) := ⟨_, rfl⟩
        rw [← hX]
        have hfin : ScR1 w [(w.heap.size, 28, [.int .i64 a0, .int .i64 b0, .int .i64 a1, .int .i64 b1, .int .i64 a2, .int .i64 b2]), (w.heap.size + 1, 26, [.int .i64 kn, .int .i64 kd]), (w1.heap.size, 34, [.int .i64 x0, .int .i64 x1, .int .i64 x2, .int .i64 D]), (w3.heap.size, 28, [.int .i64 s0, .int .i64 s1, .int .i64 s2, .int .i64 s3, .int .i64 s4, .int .i64 s5])] w4.heap.size m0 m1 m2 DK (.int .i64 ((2 + 1 : Nat) : Int)) X2 := by
          rw [hX]
          exact ⟨2 + 1, by omega, rfl, HD.out.put 4 rfl 2 (.int .i64 m2)⟩
        have HFIN := Lib.hid hfin
        have hs2 : X2.cell? ⟨w1.heap.size, 2, none⟩ = some (.int .i64 x2) ∧ X2.cell? ⟨w.heap.size + 1, 0, none⟩ = some (.int .i64 kn) := by
          rw [hX]
          have h := HD.out.put 4 rfl 2 (.int .i64 m2)
          exact ⟨(h.at_ 2 rfl).cell 2, (h.at_ 1 rfl).cell 0⟩
        refine hK.out _ _ (fun _ => hs2) ?_
        clear hK K hX q0' f0' hfin hs2
        try simp only [Act.put]
        refine wpAnyE_done (by kernel_rfl) ?_ _
        go_wp2_with fail
        go_roundw
        case rel => exact HFIN.out
        case measure => simp [intOf]
    · obtain rfl : j = 3 := by omega
      have HM6 : Hid (Hp w [(w.heap.size, 28, [.int .i64 a0, .int .i64 b0, .int .i64 a1, .int .i64 b1, .int .i64 a2, .int .i64 b2]), (w.heap.size + 1, 26, [.int .i64 kn, .int .i64 kd]), (w1.heap.size, 34, [.int .i64 x0, .int .i64 x1, .int .i64 x2, .int .i64 D]), (w3.heap.size, 28, [.int .i64 s0, .int .i64 s1, .int .i64 s2, .int .i64 s3, .int .i64 s4, .int .i64 s5]), (w4.heap.size, 34, [.int .i64 m0, .int .i64 m1, .int .i64 m2, .int .i64 DK])] wr) := HM.out
      clear HM HW0 HW1 HW2
      obtain ⟨w6, hw6⟩ : ∃ w6, w6 = wr := ⟨_, rfl⟩
      rw [← hw6] at HM6 ⊢
      clear hw6
      obtain ⟨k5_0, k5_1, k5_2, k5_3⟩ := four_of (HM6.out.at_ 4 rfl)
      go_wp2_with fail
      refine (HWR.out _).mono ?_
      rintro e w7 ⟨rfl, hb⟩
      have HM7 := Lib.hid (show Hp w [(w.heap.size, 28, [.int .i64 a0, .int .i64 b0, .int .i64 a1, .int .i64 b1, .int .i64 a2, .int .i64 b2]), (w.heap.size + 1, 26, [.int .i64 kn, .int .i64 kd]), (w1.heap.size, 34, [.int .i64 x0, .int .i64 x1, .int .i64 x2, .int .i64 D]), (w3.heap.size, 28, [.int .i64 s0, .int .i64 s1, .int .i64 s2, .int .i64 s3, .int .i64 s4, .int .i64 s5]), (w4.heap.size, 34, [.int .i64 m0, .int .i64 m1, .int .i64 m2, .int .i64 DK]), (w7.heap.size, 46, [.int .i64 p0, .int .i64 q0, .int .i64 p1, .int .i64 q1, .int .i64 p2, .int .i64 q2])] _ from (HM6.out.step hb).new 46 [.int .i64 p0, .int .i64 q0, .int .i64 p1, .int .i64 q1, .int .i64 p2, .int .i64 q2])
      clear hb HM6 k5_0 k5_1 k5_2 k5_3
      go_wp2_with fail
      go_loopw [12] (fun i wr => ScR2 w [(w.heap.size, 28, [.int .i64 a0, .int .i64 b0, .int .i64 a1, .int .i64 b1, .int .i64 a2, .int .i64 b2]), (w.heap.size + 1, 26, [.int .i64 kn, .int .i64 kd]), (w1.heap.size, 34, [.int .i64 x0, .int .i64 x1, .int .i64 x2, .int .i64 D]), (w3.heap.size, 28, [.int .i64 s0, .int .i64 s1, .int .i64 s2, .int .i64 s3, .int .i64 s4, .int .i64 s5]), (w4.heap.size, 34, [.int .i64 m0, .int .i64 m1, .int .i64 m2, .int .i64 DK]), (w7.heap.size, 46, [.int .i64 p0, .int .i64 q0, .int .i64 p1, .int .i64 q1, .int .i64 p2, .int .i64 q2])] i wr) (fun i _ => 3 - (intOf i).toNat)
      case atStart => exact ⟨0, by omega, rfl, HM7.out⟩
      case round =>
        clear HM7
        obtain ⟨j, hj, rfl, hm⟩ := hrel
        have HM := Lib.hid hm
        clear hm
        by_cases hlt : j < 3
        · rcases (show j = 0 ∨ j = 1 ∨ j = 2 by omega) with rfl | rfl | rfl
          · obtain ⟨y0, y1, y2, y3, y4, y5⟩ := six_of (HM.out.at_ 5 rfl)
            by_cases hR : Right p0 q0
            · have hrr := HR0.out
              rw [rightB_ok hR] at hrr
              have HRR := Lib.hid hrr
              clear hrr hR
              go_wp2_with fail
              refine (HRR.out _).mono ?_
              rintro e w8 ⟨rfl, hb⟩
              have HM8 := Lib.hid (HM.out.step hb)
              clear hb HM y0 y1 y2 y3 y4 y5
              have HRL := Lib.hid (show ScR2 w [(w.heap.size, 28, [.int .i64 a0, .int .i64 b0, .int .i64 a1, .int .i64 b1, .int .i64 a2, .int .i64 b2]), (w.heap.size + 1, 26, [.int .i64 kn, .int .i64 kd]), (w1.heap.size, 34, [.int .i64 x0, .int .i64 x1, .int .i64 x2, .int .i64 D]), (w3.heap.size, 28, [.int .i64 s0, .int .i64 s1, .int .i64 s2, .int .i64 s3, .int .i64 s4, .int .i64 s5]), (w4.heap.size, 34, [.int .i64 m0, .int .i64 m1, .int .i64 m2, .int .i64 DK]), (w7.heap.size, 46, [.int .i64 p0, .int .i64 q0, .int .i64 p1, .int .i64 q1, .int .i64 p2, .int .i64 q2])] (.int .i64 ((0 + 1 : Nat) : Int)) w8 from ⟨0 + 1, by omega, rfl, HM8.out⟩)
              go_wp2_with fail
              go_roundw
              case rel => exact HRL.out
              case measure => simp [intOf]
            · have hrr := HR0.out
              rw [rightB_no hR] at hrr
              have HRR := Lib.hid hrr
              have hz := HS.out
              rw [show ivR p0 q0 p1 q1 p2 q2 = .tuple #[szv 0 0 0 0 0 0, .int .i64 4] by
                unfold ivR
                rw [if_neg]
                rw [ivE_num (q := (p0, q0)) (by simp) hR]
                decide] at hz
              simp only [Value.tuple.injEq, Array.mk.injEq, List.cons.injEq, Value.agg.injEq, Value.int.injEq, true_and, and_true] at hz
              obtain ⟨⟨z0, z1, z2, z3, z4, z5⟩, z6⟩ := hz
              subst z0 z1 z2 z3 z4 z5 z6
              clear hrr hR HS
              go_wp2_with fail
              refine (HRR.out _).mono ?_
              rintro e w8 ⟨rfl, hb⟩
              have HM8 := Lib.hid (HM.out.step hb)
              clear hb HM y0 y1 y2 y3 y4 y5
              obtain ⟨y0, y1, y2, y3, y4, y5⟩ := six_of (HM8.out.at_ 3 rfl)
              have heq0 := HEQ0.out
              go_wp2
              go_ret
              exact ⟨rfl, HM8.out.below⟩
          · obtain ⟨y0, y1, y2, y3, y4, y5⟩ := six_of (HM.out.at_ 5 rfl)
            by_cases hR : Right p1 q1
            · have hrr := HR1.out
              rw [rightB_ok hR] at hrr
              have HRR := Lib.hid hrr
              clear hrr hR
              go_wp2_with fail
              refine (HRR.out _).mono ?_
              rintro e w8 ⟨rfl, hb⟩
              have HM8 := Lib.hid (HM.out.step hb)
              clear hb HM y0 y1 y2 y3 y4 y5
              have HRL := Lib.hid (show ScR2 w [(w.heap.size, 28, [.int .i64 a0, .int .i64 b0, .int .i64 a1, .int .i64 b1, .int .i64 a2, .int .i64 b2]), (w.heap.size + 1, 26, [.int .i64 kn, .int .i64 kd]), (w1.heap.size, 34, [.int .i64 x0, .int .i64 x1, .int .i64 x2, .int .i64 D]), (w3.heap.size, 28, [.int .i64 s0, .int .i64 s1, .int .i64 s2, .int .i64 s3, .int .i64 s4, .int .i64 s5]), (w4.heap.size, 34, [.int .i64 m0, .int .i64 m1, .int .i64 m2, .int .i64 DK]), (w7.heap.size, 46, [.int .i64 p0, .int .i64 q0, .int .i64 p1, .int .i64 q1, .int .i64 p2, .int .i64 q2])] (.int .i64 ((1 + 1 : Nat) : Int)) w8 from ⟨1 + 1, by omega, rfl, HM8.out⟩)
              go_wp2_with fail
              go_roundw
              case rel => exact HRL.out
              case measure => simp [intOf]
            · have hrr := HR1.out
              rw [rightB_no hR] at hrr
              have HRR := Lib.hid hrr
              have hz := HS.out
              rw [show ivR p0 q0 p1 q1 p2 q2 = .tuple #[szv 0 0 0 0 0 0, .int .i64 4] by
                unfold ivR
                rw [if_neg]
                rw [ivE_num (q := (p1, q1)) (by simp) hR]
                decide] at hz
              simp only [Value.tuple.injEq, Array.mk.injEq, List.cons.injEq, Value.agg.injEq, Value.int.injEq, true_and, and_true] at hz
              obtain ⟨⟨z0, z1, z2, z3, z4, z5⟩, z6⟩ := hz
              subst z0 z1 z2 z3 z4 z5 z6
              clear hrr hR HS
              go_wp2_with fail
              refine (HRR.out _).mono ?_
              rintro e w8 ⟨rfl, hb⟩
              have HM8 := Lib.hid (HM.out.step hb)
              clear hb HM y0 y1 y2 y3 y4 y5
              obtain ⟨y0, y1, y2, y3, y4, y5⟩ := six_of (HM8.out.at_ 3 rfl)
              have heq0 := HEQ0.out
              go_wp2
              go_ret
              exact ⟨rfl, HM8.out.below⟩
          · obtain ⟨y0, y1, y2, y3, y4, y5⟩ := six_of (HM.out.at_ 5 rfl)
            by_cases hR : Right p2 q2
            · have hrr := HR2.out
              rw [rightB_ok hR] at hrr
              have HRR := Lib.hid hrr
              clear hrr hR
              go_wp2_with fail
              refine (HRR.out _).mono ?_
              rintro e w8 ⟨rfl, hb⟩
              have HM8 := Lib.hid (HM.out.step hb)
              clear hb HM y0 y1 y2 y3 y4 y5
              have HRL := Lib.hid (show ScR2 w [(w.heap.size, 28, [.int .i64 a0, .int .i64 b0, .int .i64 a1, .int .i64 b1, .int .i64 a2, .int .i64 b2]), (w.heap.size + 1, 26, [.int .i64 kn, .int .i64 kd]), (w1.heap.size, 34, [.int .i64 x0, .int .i64 x1, .int .i64 x2, .int .i64 D]), (w3.heap.size, 28, [.int .i64 s0, .int .i64 s1, .int .i64 s2, .int .i64 s3, .int .i64 s4, .int .i64 s5]), (w4.heap.size, 34, [.int .i64 m0, .int .i64 m1, .int .i64 m2, .int .i64 DK]), (w7.heap.size, 46, [.int .i64 p0, .int .i64 q0, .int .i64 p1, .int .i64 q1, .int .i64 p2, .int .i64 q2])] (.int .i64 ((2 + 1 : Nat) : Int)) w8 from ⟨2 + 1, by omega, rfl, HM8.out⟩)
              go_wp2_with fail
              go_roundw
              case rel => exact HRL.out
              case measure => simp [intOf]
            · have hrr := HR2.out
              rw [rightB_no hR] at hrr
              have HRR := Lib.hid hrr
              have hz := HS.out
              rw [show ivR p0 q0 p1 q1 p2 q2 = .tuple #[szv 0 0 0 0 0 0, .int .i64 4] by
                unfold ivR
                rw [if_neg]
                rw [ivE_num (q := (p2, q2)) (by simp) hR]
                decide] at hz
              simp only [Value.tuple.injEq, Array.mk.injEq, List.cons.injEq, Value.agg.injEq, Value.int.injEq, true_and, and_true] at hz
              obtain ⟨⟨z0, z1, z2, z3, z4, z5⟩, z6⟩ := hz
              subst z0 z1 z2 z3 z4 z5 z6
              clear hrr hR HS
              go_wp2_with fail
              refine (HRR.out _).mono ?_
              rintro e w8 ⟨rfl, hb⟩
              have HM8 := Lib.hid (HM.out.step hb)
              clear hb HM y0 y1 y2 y3 y4 y5
              obtain ⟨y0, y1, y2, y3, y4, y5⟩ := six_of (HM8.out.at_ 3 rfl)
              have heq0 := HEQ0.out
              go_wp2
              go_ret
              exact ⟨rfl, HM8.out.below⟩
        · obtain rfl : j = 3 := by omega
          obtain ⟨w9, hw9⟩ : ∃ w9, w9 = wr := ⟨_, rfl⟩
          rw [← hw9] at HM ⊢
          clear hw9
          have HM9 := Lib.hid HM.out
          clear HM
          obtain ⟨k6_0, k6_1, k6_2, k6_3⟩ := four_of (HM9.out.at_ 4 rfl)
          go_wp2_with fail
          refine (HRT.out _).mono ?_
          rintro e w10 ⟨rfl, hb⟩
          obtain ⟨k7_0, k7_1, k7_2, k7_3, k7_4, k7_5⟩ := six_of ((HM9.out.step hb).at_ 3 rfl)
          have lt8 := ((HM9.out.step hb).at_ 3 rfl).lt
          have HM10 := Lib.hid (show Hp w [(w.heap.size, 28, [.int .i64 a0, .int .i64 b0, .int .i64 a1, .int .i64 b1, .int .i64 a2, .int .i64 b2]), (w.heap.size + 1, 26, [.int .i64 kn, .int .i64 kd]), (w1.heap.size, 34, [.int .i64 x0, .int .i64 x1, .int .i64 x2, .int .i64 D]), (w3.heap.size, 28, [.int .i64 s0, .int .i64 s1, .int .i64 s2, .int .i64 s3, .int .i64 s4, .int .i64 s5]), (w4.heap.size, 34, [.int .i64 m0, .int .i64 m1, .int .i64 m2, .int .i64 DK]), (w7.heap.size, 46, [.int .i64 p0, .int .i64 q0, .int .i64 p1, .int .i64 q1, .int .i64 p2, .int .i64 q2]), (w10.heap.size, 28, [.int .i64 s0, .int .i64 s1, .int .i64 s2, .int .i64 s3, .int .i64 s4, .int .i64 s5])] _ from (HM9.out.step hb).new 28 [.int .i64 s0, .int .i64 s1, .int .i64 s2, .int .i64 s3, .int .i64 s4, .int .i64 s5])
          clear hb HM9 k6_0 k6_1 k6_2 k6_3
          have heq1 := HEQ1.out
          go_wp2
          go_ret
          exact ⟨rfl, HM10.out.below⟩
theorem lscales_any (a0 b0 a1 b1 a2 b2 kn kd : Int) (w : World) (ht : Tab w) (i1 : I64 kn) (i2 : I64 kd) :
    Calls Tryd.prog 4 #[szv a0 b0 a1 b1 a2 b2, .agg #[.int .i64 kn, .int .i64 kd]] w fun e w' => e = .returned (.bool true) ∧ Below w.heap.size w w' := by
  by_cases h1 : ivE [(a0, b0), (a1, b1), (a2, b2)] = 0
  · by_cases hk : Right kn kd
    · exact lscales_ok a0 b0 a1 b1 a2 b2 kn kd w ht h1 hk
    · exact lscales_num a0 b0 a1 b1 a2 b2 kn kd w ht h1 i1 i2 hk
  · exact lscales_err a0 b0 a1 b1 a2 b2 kn kd w ht h1
end Go.Proofs.YtplonkeipdbchaaDoor
