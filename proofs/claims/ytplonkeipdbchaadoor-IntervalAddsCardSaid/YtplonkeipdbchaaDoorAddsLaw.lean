/- Law IntervalAdds: the walk. Conditions: parts are ints; the library's table of powers of ten reads as its text lays it. Printed by genaddslaw.py. -/
import Derived.Test.YtplonkeipdbchaaDoorIvAdd
import Derived.Test.YtplonkeipdbchaaDoorRefOAdd
import Derived.Test.YtplonkeipdbchaaDoorLaw05
import Derived.Test.YtplonkeipdbchaaDoorKnown05
import Derived.Test.YtplonkeipdbchaaDoorIvSign
namespace Go.Proofs.YtplonkeipdbchaaDoor
open Go.RowKit

theorem add_crossP {x u D E a b c d : Int} (h : x * b = a * D) (k : u * d = c * E) : (x * E + 1 * u * D) * (b * d) = (a * d + c * b) * (D * E) := by
  have e1 : (x * E + 1 * u * D) * (b * d) = (x * b) * (E * d) + (u * d) * (D * b) := by
    rw [Int.one_mul, Int.add_mul]
    congr 1 <;> simp only [Int.mul_comm, Int.mul_left_comm]
  rw [e1, h, k, Int.add_mul]
  congr 1 <;> simp only [Int.mul_comm, Int.mul_left_comm]
theorem add_crossQ {x u D E a b c d : Int} (h : x * b = a * D) (k : u * d = c * E) : (x * E + (-1) * u * D) * (b * d) = (a * d - c * b) * (D * E) := by
  have e1 : (x * E + (-1) * u * D) * (b * d) = (x * b) * (E * d) - (u * d) * (D * b) := by
    rw [Int.neg_mul, Int.one_mul, Int.neg_mul, ← Int.sub_eq_add_neg, Int.sub_mul]
    congr 1 <;> simp only [Int.mul_comm, Int.mul_left_comm]
  rw [e1, h, k, Int.sub_mul]
  congr 1 <;> simp only [Int.mul_comm, Int.mul_left_comm]
theorem adds_mem (a0 b0 a1 b1 a2 b2 c0 d0 c1 d1 c2 d2 : Int) (w : World) : Hp w [(w.heap.size, 28, [.int .i64 a0, .int .i64 b0, .int .i64 a1, .int .i64 b1, .int .i64 a2, .int .i64 b2]), (w.heap.size + 1, 28, [.int .i64 c0, .int .i64 d0, .int .i64 c1, .int .i64 d1, .int .i64 c2, .int .i64 d2])] ((w.alloc (.cells #[.int .i64 a0, .int .i64 b0, .int .i64 a1, .int .i64 b1, .int .i64 a2, .int .i64 b2] 28)).alloc (.cells #[.int .i64 c0, .int .i64 d0, .int .i64 c1, .int .i64 d1, .int .i64 c2, .int .i64 d2] 28)) := by
  have h := ((Hp.start w).new 28 [.int .i64 a0, .int .i64 b0, .int .i64 a1, .int .i64 b1, .int .i64 a2, .int .i64 b2]).new 28 [.int .i64 c0, .int .i64 d0, .int .i64 c1, .int .i64 d1, .int .i64 c2, .int .i64 d2]
  simp only [World.size_alloc] at h
  exact h
set_option maxRecDepth 100000 in
set_option maxHeartbeats 16000000 in
/-- One of the sizes is wrong. -/
theorem ladds_err (a0 b0 a1 b1 a2 b2 c0 d0 c1 d1 c2 d2 : Int) (w : World) (ht : Tab w) (hi : ∀ k ∈ [a0, b0, a1, b1, a2, b2, c0, d0, c1, d1, c2, d2], I64 k) (h : (if ivE [(a0, b0), (a1, b1), (a2, b2)] ≠ 0 then ivE [(a0, b0), (a1, b1), (a2, b2)] else ivE [(c0, d0), (c1, d1), (c2, d2)]) ≠ 0) :
    Calls Tryd.prog 5 #[szv a0 b0 a1 b1 a2 b2, szv c0 d0 c1 d1 c2 d2] w fun e w' => e = .returned (.bool true) ∧ Below w.heap.size w w' := by
  have HM0 := Lib.hid (adds_mem a0 b0 a1 b1 a2 b2 c0 d0 c1 d1 c2 d2 w)
  have HT := Lib.hid ht
  have hra := fun W => lread_any a0 b0 a1 b1 a2 b2 W
  have hrb := fun W => lread_any c0 d0 c1 d1 c2 d2 W
  have had := fun W => iAdd_err a0 b0 a1 b1 a2 b2 c0 d0 c1 d1 c2 d2 W hi h
  have hsu := fun W => iSub_err a0 b0 a1 b1 a2 b2 c0 d0 c1 d1 c2 d2 W hi h
  obtain ⟨xa, xb, xc, xd, hxv, _, _⟩ := rdV_form a0 b0 a1 b1 a2 b2
  obtain ⟨ya, yb, yc, yd, hyv, _, _⟩ := rdV_form c0 d0 c1 d1 c2 d2
  rw [hxv] at hra
  rw [hyv] at hrb
  obtain ⟨r1, hr1⟩ : ∃ r, r = ivE [(a0, b0), (a1, b1), (a2, b2)] := ⟨_, rfl⟩
  obtain ⟨r2, hr2⟩ : ∃ r, r = ivE [(c0, d0), (c1, d1), (c2, d2)] := ⟨_, rfl⟩
  rw [← hr1, ← hr2] at had hsu h
  rw [← hr1] at hra
  rw [← hr2] at hrb
  have heq := fun W => eql_size W 0 0 0 0 0 0 0 0 0 0 0 0
  simp only [szB_self] at heq
  have HRA := Lib.hid hra
  have HRB := Lib.hid hrb
  by_cases h1 : r1 = 0
  · rw [if_neg (fun k => k h1)] at had hsu h
    have hz1 : (r1 == 0) = true := by simpa using h1
    have hz2 : (r2 != 0) = true := by simpa using h
    have HAD := Lib.hid had
    have HSU := Lib.hid hsu
    clear ht hra hrb had hsu hxv hyv hr1 hr2 hi h h1
    go_enter Tryd.func5, Tryd.ntmps5
    go_wp2_with fail
    refine (lknown_any _ (HT.out.below HM0.out.below)).mono ?_
    rintro e w1 ⟨rfl, hb⟩
    have HM1 := Lib.hid (show Hp w [(w.heap.size, 28, [.int .i64 a0, .int .i64 b0, .int .i64 a1, .int .i64 b1, .int .i64 a2, .int .i64 b2]), (w.heap.size + 1, 28, [.int .i64 c0, .int .i64 d0, .int .i64 c1, .int .i64 d1, .int .i64 c2, .int .i64 d2])] _ from (HM0.out.step hb))
    obtain ⟨k0_0, k0_1, k0_2, k0_3, k0_4, k0_5⟩ := six_of (HM1.out.at_ 0 rfl)
    clear hb HM0
    go_wp2_with fail
    refine (HRA.out _).mono ?_
    rintro e w2 ⟨rfl, hb⟩
    obtain ⟨k1_0, k1_1, k1_2, k1_3, k1_4, k1_5⟩ := six_of ((HM1.out.step hb).at_ 1 rfl)
    have lt2 := ((HM1.out.step hb).at_ 1 rfl).lt
    have HM2 := Lib.hid (show Hp w [(w.heap.size, 28, [.int .i64 a0, .int .i64 b0, .int .i64 a1, .int .i64 b1, .int .i64 a2, .int .i64 b2]), (w.heap.size + 1, 28, [.int .i64 c0, .int .i64 d0, .int .i64 c1, .int .i64 d1, .int .i64 c2, .int .i64 d2]), (w2.heap.size, 34, [.int .i64 xa, .int .i64 xb, .int .i64 xc, .int .i64 xd])] _ from (HM1.out.step hb).new 34 [.int .i64 xa, .int .i64 xb, .int .i64 xc, .int .i64 xd])
    clear hb HM1 k0_0 k0_1 k0_2 k0_3 k0_4 k0_5
    go_wp2_with fail
    refine (HRB.out _).mono ?_
    rintro e w3 ⟨rfl, hb⟩
    obtain ⟨k2_0, k2_1, k2_2, k2_3, k2_4, k2_5⟩ := six_of ((HM2.out.step hb).at_ 0 rfl)
    have lt3 := ((HM2.out.step hb).at_ 0 rfl).lt
    obtain ⟨k3_0, k3_1, k3_2, k3_3, k3_4, k3_5⟩ := six_of ((HM2.out.step hb).at_ 1 rfl)
    have lt4 := ((HM2.out.step hb).at_ 1 rfl).lt
    have HM3 := Lib.hid (show Hp w [(w.heap.size, 28, [.int .i64 a0, .int .i64 b0, .int .i64 a1, .int .i64 b1, .int .i64 a2, .int .i64 b2]), (w.heap.size + 1, 28, [.int .i64 c0, .int .i64 d0, .int .i64 c1, .int .i64 d1, .int .i64 c2, .int .i64 d2]), (w2.heap.size, 34, [.int .i64 xa, .int .i64 xb, .int .i64 xc, .int .i64 xd]), (w3.heap.size, 34, [.int .i64 ya, .int .i64 yb, .int .i64 yc, .int .i64 yd])] _ from (HM2.out.step hb).new 34 [.int .i64 ya, .int .i64 yb, .int .i64 yc, .int .i64 yd])
    clear hb HM2 k1_0 k1_1 k1_2 k1_3 k1_4 k1_5 lt2
    go_wp2_with fail
    refine (HAD.out _).mono ?_
    rintro e w4 ⟨rfl, hb⟩
    obtain ⟨k4_0, k4_1, k4_2, k4_3, k4_4, k4_5⟩ := six_of ((HM3.out.step hb).at_ 0 rfl)
    have lt5 := ((HM3.out.step hb).at_ 0 rfl).lt
    obtain ⟨k5_0, k5_1, k5_2, k5_3, k5_4, k5_5⟩ := six_of ((HM3.out.step hb).at_ 1 rfl)
    have lt6 := ((HM3.out.step hb).at_ 1 rfl).lt
    have HM4 := Lib.hid (show Hp w [(w.heap.size, 28, [.int .i64 a0, .int .i64 b0, .int .i64 a1, .int .i64 b1, .int .i64 a2, .int .i64 b2]), (w.heap.size + 1, 28, [.int .i64 c0, .int .i64 d0, .int .i64 c1, .int .i64 d1, .int .i64 c2, .int .i64 d2]), (w2.heap.size, 34, [.int .i64 xa, .int .i64 xb, .int .i64 xc, .int .i64 xd]), (w3.heap.size, 34, [.int .i64 ya, .int .i64 yb, .int .i64 yc, .int .i64 yd]), (w4.heap.size, 28, [.int .i64 0, .int .i64 0, .int .i64 0, .int .i64 0, .int .i64 0, .int .i64 0])] _ from (HM3.out.step hb).new 28 [.int .i64 0, .int .i64 0, .int .i64 0, .int .i64 0, .int .i64 0, .int .i64 0])
    clear hb HM3 k2_0 k2_1 k2_2 k2_3 k2_4 k2_5 lt3 k3_0 k3_1 k3_2 k3_3 k3_4 k3_5 lt4
    go_wp2_with fail
    refine (HSU.out _).mono ?_
    rintro e w5 ⟨rfl, hb⟩
    obtain ⟨k6_0, k6_1, k6_2, k6_3, k6_4, k6_5⟩ := six_of ((HM4.out.step hb).at_ 4 rfl)
    have lt7 := ((HM4.out.step hb).at_ 4 rfl).lt
    have HM5 := Lib.hid (show Hp w [(w.heap.size, 28, [.int .i64 a0, .int .i64 b0, .int .i64 a1, .int .i64 b1, .int .i64 a2, .int .i64 b2]), (w.heap.size + 1, 28, [.int .i64 c0, .int .i64 d0, .int .i64 c1, .int .i64 d1, .int .i64 c2, .int .i64 d2]), (w2.heap.size, 34, [.int .i64 xa, .int .i64 xb, .int .i64 xc, .int .i64 xd]), (w3.heap.size, 34, [.int .i64 ya, .int .i64 yb, .int .i64 yc, .int .i64 yd]), (w4.heap.size, 28, [.int .i64 0, .int .i64 0, .int .i64 0, .int .i64 0, .int .i64 0, .int .i64 0]), (w5.heap.size, 28, [.int .i64 0, .int .i64 0, .int .i64 0, .int .i64 0, .int .i64 0, .int .i64 0])] _ from (HM4.out.step hb).new 28 [.int .i64 0, .int .i64 0, .int .i64 0, .int .i64 0, .int .i64 0, .int .i64 0])
    clear hb HM4 k4_0 k4_1 k4_2 k4_3 k4_4 k4_5 lt5 k5_0 k5_1 k5_2 k5_3 k5_4 k5_5 lt6
    go_wp2
    go_ret
    exact ⟨rfl, HM5.out.below⟩
  · rw [if_pos h1] at had hsu
    have hz1 : (r1 == 0) = false := by simpa using h1
    have hz2 : (r1 != 0) = true := by simpa using h1
    have HAD := Lib.hid had
    have HSU := Lib.hid hsu
    clear ht hra hrb had hsu hxv hyv hr1 hr2 hi h h1
    go_enter Tryd.func5, Tryd.ntmps5
    go_wp2_with fail
    refine (lknown_any _ (HT.out.below HM0.out.below)).mono ?_
    rintro e w1 ⟨rfl, hb⟩
    have HM1 := Lib.hid (show Hp w [(w.heap.size, 28, [.int .i64 a0, .int .i64 b0, .int .i64 a1, .int .i64 b1, .int .i64 a2, .int .i64 b2]), (w.heap.size + 1, 28, [.int .i64 c0, .int .i64 d0, .int .i64 c1, .int .i64 d1, .int .i64 c2, .int .i64 d2])] _ from (HM0.out.step hb))
    obtain ⟨k0_0, k0_1, k0_2, k0_3, k0_4, k0_5⟩ := six_of (HM1.out.at_ 0 rfl)
    clear hb HM0
    go_wp2_with fail
    refine (HRA.out _).mono ?_
    rintro e w2 ⟨rfl, hb⟩
    obtain ⟨k1_0, k1_1, k1_2, k1_3, k1_4, k1_5⟩ := six_of ((HM1.out.step hb).at_ 1 rfl)
    have lt2 := ((HM1.out.step hb).at_ 1 rfl).lt
    have HM2 := Lib.hid (show Hp w [(w.heap.size, 28, [.int .i64 a0, .int .i64 b0, .int .i64 a1, .int .i64 b1, .int .i64 a2, .int .i64 b2]), (w.heap.size + 1, 28, [.int .i64 c0, .int .i64 d0, .int .i64 c1, .int .i64 d1, .int .i64 c2, .int .i64 d2]), (w2.heap.size, 34, [.int .i64 xa, .int .i64 xb, .int .i64 xc, .int .i64 xd])] _ from (HM1.out.step hb).new 34 [.int .i64 xa, .int .i64 xb, .int .i64 xc, .int .i64 xd])
    clear hb HM1 k0_0 k0_1 k0_2 k0_3 k0_4 k0_5
    go_wp2_with fail
    refine (HRB.out _).mono ?_
    rintro e w3 ⟨rfl, hb⟩
    obtain ⟨k2_0, k2_1, k2_2, k2_3, k2_4, k2_5⟩ := six_of ((HM2.out.step hb).at_ 0 rfl)
    have lt3 := ((HM2.out.step hb).at_ 0 rfl).lt
    obtain ⟨k3_0, k3_1, k3_2, k3_3, k3_4, k3_5⟩ := six_of ((HM2.out.step hb).at_ 1 rfl)
    have lt4 := ((HM2.out.step hb).at_ 1 rfl).lt
    have HM3 := Lib.hid (show Hp w [(w.heap.size, 28, [.int .i64 a0, .int .i64 b0, .int .i64 a1, .int .i64 b1, .int .i64 a2, .int .i64 b2]), (w.heap.size + 1, 28, [.int .i64 c0, .int .i64 d0, .int .i64 c1, .int .i64 d1, .int .i64 c2, .int .i64 d2]), (w2.heap.size, 34, [.int .i64 xa, .int .i64 xb, .int .i64 xc, .int .i64 xd]), (w3.heap.size, 34, [.int .i64 ya, .int .i64 yb, .int .i64 yc, .int .i64 yd])] _ from (HM2.out.step hb).new 34 [.int .i64 ya, .int .i64 yb, .int .i64 yc, .int .i64 yd])
    clear hb HM2 k1_0 k1_1 k1_2 k1_3 k1_4 k1_5 lt2
    go_wp2_with fail
    refine (HAD.out _).mono ?_
    rintro e w4 ⟨rfl, hb⟩
    obtain ⟨k4_0, k4_1, k4_2, k4_3, k4_4, k4_5⟩ := six_of ((HM3.out.step hb).at_ 0 rfl)
    have lt5 := ((HM3.out.step hb).at_ 0 rfl).lt
    obtain ⟨k5_0, k5_1, k5_2, k5_3, k5_4, k5_5⟩ := six_of ((HM3.out.step hb).at_ 1 rfl)
    have lt6 := ((HM3.out.step hb).at_ 1 rfl).lt
    have HM4 := Lib.hid (show Hp w [(w.heap.size, 28, [.int .i64 a0, .int .i64 b0, .int .i64 a1, .int .i64 b1, .int .i64 a2, .int .i64 b2]), (w.heap.size + 1, 28, [.int .i64 c0, .int .i64 d0, .int .i64 c1, .int .i64 d1, .int .i64 c2, .int .i64 d2]), (w2.heap.size, 34, [.int .i64 xa, .int .i64 xb, .int .i64 xc, .int .i64 xd]), (w3.heap.size, 34, [.int .i64 ya, .int .i64 yb, .int .i64 yc, .int .i64 yd]), (w4.heap.size, 28, [.int .i64 0, .int .i64 0, .int .i64 0, .int .i64 0, .int .i64 0, .int .i64 0])] _ from (HM3.out.step hb).new 28 [.int .i64 0, .int .i64 0, .int .i64 0, .int .i64 0, .int .i64 0, .int .i64 0])
    clear hb HM3 k2_0 k2_1 k2_2 k2_3 k2_4 k2_5 lt3 k3_0 k3_1 k3_2 k3_3 k3_4 k3_5 lt4
    go_wp2_with fail
    refine (HSU.out _).mono ?_
    rintro e w5 ⟨rfl, hb⟩
    obtain ⟨k6_0, k6_1, k6_2, k6_3, k6_4, k6_5⟩ := six_of ((HM4.out.step hb).at_ 4 rfl)
    have lt7 := ((HM4.out.step hb).at_ 4 rfl).lt
    have HM5 := Lib.hid (show Hp w [(w.heap.size, 28, [.int .i64 a0, .int .i64 b0, .int .i64 a1, .int .i64 b1, .int .i64 a2, .int .i64 b2]), (w.heap.size + 1, 28, [.int .i64 c0, .int .i64 d0, .int .i64 c1, .int .i64 d1, .int .i64 c2, .int .i64 d2]), (w2.heap.size, 34, [.int .i64 xa, .int .i64 xb, .int .i64 xc, .int .i64 xd]), (w3.heap.size, 34, [.int .i64 ya, .int .i64 yb, .int .i64 yc, .int .i64 yd]), (w4.heap.size, 28, [.int .i64 0, .int .i64 0, .int .i64 0, .int .i64 0, .int .i64 0, .int .i64 0]), (w5.heap.size, 28, [.int .i64 0, .int .i64 0, .int .i64 0, .int .i64 0, .int .i64 0, .int .i64 0])] _ from (HM4.out.step hb).new 28 [.int .i64 0, .int .i64 0, .int .i64 0, .int .i64 0, .int .i64 0, .int .i64 0])
    clear hb HM4 k4_0 k4_1 k4_2 k4_3 k4_4 k4_5 lt5 k5_0 k5_1 k5_2 k5_3 k5_4 k5_5 lt6
    go_wp2
    go_ret
    exact ⟨rfl, HM5.out.below⟩
set_option maxRecDepth 100000 in
set_option maxHeartbeats 16000000 in
/-- Both sizes are right. -/
theorem ladds_ok (a0 b0 a1 b1 a2 b2 c0 d0 c1 d1 c2 d2 : Int) (w : World) (ht : Tab w) (h1 : ivE [(a0, b0), (a1, b1), (a2, b2)] = 0) (h2 : ivE [(c0, d0), (c1, d1), (c2, d2)] = 0) :
    Calls Tryd.prog 5 #[szv a0 b0 a1 b1 a2 b2, szv c0 d0 c1 d1 c2 d2] w fun e w' => e = .returned (.bool true) ∧ Below w.heap.size w w' := by
  have HM0 := Lib.hid (adds_mem a0 b0 a1 b1 a2 b2 c0 d0 c1 d1 c2 d2 w)
  have HT := Lib.hid ht
  have hra := fun W => lread_any a0 b0 a1 b1 a2 b2 W
  have hrb := fun W => lread_any c0 d0 c1 d1 c2 d2 W
  have had := fun W => iAdd_any a0 b0 a1 b1 a2 b2 c0 d0 c1 d1 c2 d2 W h1 h2
  have hsu := fun W => iSub_any a0 b0 a1 b1 a2 b2 c0 d0 c1 d1 c2 d2 W h1 h2
  obtain ⟨x, y, z, D, hxv, hxp, _⟩ := rdV_form a0 b0 a1 b1 a2 b2
  obtain ⟨u, v, t, E, hyv, hyp, _⟩ := rdV_form c0 d0 c1 d1 c2 d2
  rw [hxv, h1] at hra
  rw [hyv, h2] at hrb
  replace hxp := hxp h1
  replace hyp := hyp h2
  obtain ⟨ra, rb, rc⟩ := ivE_right h1
  obtain ⟨sa, sb, sc⟩ := ivE_right h2
  have hA : ∀ q ∈ [(a0, b0), (a1, b1), (a2, b2)], Right q.1 q.2 := by
    intro q hq
    simp only [List.mem_cons, List.not_mem_nil, or_false] at hq
    rcases hq with rfl | rfl | rfl
    · exact ra
    · exact rb
    · exact rc
  have hB : ∀ q ∈ [(c0, d0), (c1, d1), (c2, d2)], Right q.1 q.2 := by
    intro q hq
    simp only [List.mem_cons, List.not_mem_nil, or_false] at hq
    rcases hq with rfl | rfl | rfl
    · exact sa
    · exact sb
    · exact sc
  obtain ⟨hD, hl⟩ := prt_num hxp (right_mild hA)
  obtain ⟨hE, hm⟩ := prt_num hyp (right_mild hB)
  have bx := hl x (by simp)
  have bY := hl y (by simp)
  have bz := hl z (by simp)
  have bu := hm u (by simp)
  have bv := hm v (by simp)
  have bt := hm t (by simp)
  obtain ⟨e0, e1, e2⟩ := prt_rat hA hxp
  obtain ⟨f0, f1, f2⟩ := prt_rat hB hyp
  have hRP := fun W => radd_any x y z D u v t E 1 W ⟨by omega, by omega⟩ ⟨by omega, by omega⟩ ⟨by omega, by omega⟩ ⟨by omega, by omega⟩ ⟨by omega, by omega⟩ ⟨by omega, by omega⟩ ⟨by omega, by omega⟩ ⟨by omega, by omega⟩ (by decide)
  have hTP := fun W => lright_any (x * E + 1 * u * D) (y * E + 1 * v * D) (z * E + 1 * t * D) (D * E) W (by have := radd_bd (k := 1) (x := x) (u := u) (D := D) (E := E) ⟨by omega, by omega⟩ ⟨by omega, by omega⟩ ⟨by omega, by omega⟩ ⟨by omega, by omega⟩ (by decide); omega) (by have := radd_bd (k := 1) (x := y) (u := v) (D := D) (E := E) ⟨by omega, by omega⟩ ⟨by omega, by omega⟩ ⟨by omega, by omega⟩ ⟨by omega, by omega⟩ (by decide); omega) (by have := radd_bd (k := 1) (x := z) (u := t) (D := D) (E := E) ⟨by omega, by omega⟩ ⟨by omega, by omega⟩ ⟨by omega, by omega⟩ ⟨by omega, by omega⟩ (by decide); omega) (Int.mul_pos (by omega) (by omega)) (by have := mul_bd (a := D) (b := E) (by omega) (by omega) (by omega) (by omega); omega)
  have P0 := low_cross (n := x * E + 1 * u * D) (d := D * E) (m := a0 * d0 + c0 * b0) (e := b0 * d0) (Int.mul_pos (by omega) (by omega)) (Int.mul_pos ra.1 sa.1) (add_crossP e0 f0)
  rw [P0.1, P0.2] at hTP
  have P1 := low_cross (n := y * E + 1 * v * D) (d := D * E) (m := a1 * d1 + c1 * b1) (e := b1 * d1) (Int.mul_pos (by omega) (by omega)) (Int.mul_pos rb.1 sb.1) (add_crossP e1 f1)
  rw [P1.1, P1.2] at hTP
  have P2 := low_cross (n := z * E + 1 * t * D) (d := D * E) (m := a2 * d2 + c2 * b2) (e := b2 * d2) (Int.mul_pos (by omega) (by omega)) (Int.mul_pos rc.1 sc.1) (add_crossP e2 f2)
  rw [P2.1, P2.2] at hTP
  have hRQ := fun W => radd_any x y z D u v t E (-1) W ⟨by omega, by omega⟩ ⟨by omega, by omega⟩ ⟨by omega, by omega⟩ ⟨by omega, by omega⟩ ⟨by omega, by omega⟩ ⟨by omega, by omega⟩ ⟨by omega, by omega⟩ ⟨by omega, by omega⟩ (by decide)
  have hTQ := fun W => lright_any (x * E + (-1) * u * D) (y * E + (-1) * v * D) (z * E + (-1) * t * D) (D * E) W (by have := radd_bd (k := (-1)) (x := x) (u := u) (D := D) (E := E) ⟨by omega, by omega⟩ ⟨by omega, by omega⟩ ⟨by omega, by omega⟩ ⟨by omega, by omega⟩ (by decide); omega) (by have := radd_bd (k := (-1)) (x := y) (u := v) (D := D) (E := E) ⟨by omega, by omega⟩ ⟨by omega, by omega⟩ ⟨by omega, by omega⟩ ⟨by omega, by omega⟩ (by decide); omega) (by have := radd_bd (k := (-1)) (x := z) (u := t) (D := D) (E := E) ⟨by omega, by omega⟩ ⟨by omega, by omega⟩ ⟨by omega, by omega⟩ ⟨by omega, by omega⟩ (by decide); omega) (Int.mul_pos (by omega) (by omega)) (by have := mul_bd (a := D) (b := E) (by omega) (by omega) (by omega) (by omega); omega)
  have Q0 := low_cross (n := x * E + (-1) * u * D) (d := D * E) (m := a0 * d0 - c0 * b0) (e := b0 * d0) (Int.mul_pos (by omega) (by omega)) (Int.mul_pos ra.1 sa.1) (add_crossQ e0 f0)
  rw [Q0.1, Q0.2] at hTQ
  have Q1 := low_cross (n := y * E + (-1) * v * D) (d := D * E) (m := a1 * d1 - c1 * b1) (e := b1 * d1) (Int.mul_pos (by omega) (by omega)) (Int.mul_pos rb.1 sb.1) (add_crossQ e1 f1)
  rw [Q1.1, Q1.2] at hTQ
  have Q2 := low_cross (n := z * E + (-1) * t * D) (d := D * E) (m := a2 * d2 - c2 * b2) (e := b2 * d2) (Int.mul_pos (by omega) (by omega)) (Int.mul_pos rc.1 sc.1) (add_crossQ e2 f2)
  rw [Q2.1, Q2.2] at hTQ
  obtain ⟨s0, s1, s2, s3, s4, s5, sq, hs⟩ := ivR_form (lowN (a0 * d0 + c0 * b0) (b0 * d0)) (lowD (a0 * d0 + c0 * b0) (b0 * d0)) (lowN (a1 * d1 + c1 * b1) (b1 * d1)) (lowD (a1 * d1 + c1 * b1) (b1 * d1)) (lowN (a2 * d2 + c2 * b2) (b2 * d2)) (lowD (a2 * d2 + c2 * b2) (b2 * d2))
  obtain ⟨t0, t1, t2, t3, t4, t5, tq, htq⟩ := ivR_form (lowN (a0 * d0 - c0 * b0) (b0 * d0)) (lowD (a0 * d0 - c0 * b0) (b0 * d0)) (lowN (a1 * d1 - c1 * b1) (b1 * d1)) (lowD (a1 * d1 - c1 * b1) (b1 * d1)) (lowN (a2 * d2 - c2 * b2) (b2 * d2)) (lowD (a2 * d2 - c2 * b2) (b2 * d2))
  rw [hs] at had hTP
  rw [htq] at hsu hTQ
  obtain ⟨P0', hP0'⟩ : ∃ m, m = x * E + 1 * u * D := ⟨_, rfl⟩
  obtain ⟨P1', hP1'⟩ : ∃ m, m = y * E + 1 * v * D := ⟨_, rfl⟩
  obtain ⟨P2', hP2'⟩ : ∃ m, m = z * E + 1 * t * D := ⟨_, rfl⟩
  rw [← hP0', ← hP1', ← hP2'] at hRP hTP
  obtain ⟨Q0', hQ0'⟩ : ∃ m, m = x * E + (-1) * u * D := ⟨_, rfl⟩
  obtain ⟨Q1', hQ1'⟩ : ∃ m, m = y * E + (-1) * v * D := ⟨_, rfl⟩
  obtain ⟨Q2', hQ2'⟩ : ∃ m, m = z * E + (-1) * t * D := ⟨_, rfl⟩
  rw [← hQ0', ← hQ1', ← hQ2'] at hRQ hTQ
  obtain ⟨DE, hDE⟩ : ∃ m, m = D * E := ⟨_, rfl⟩
  rw [← hDE] at hRP hTP hRQ hTQ
  have heq1 := fun W => eql_size W s0 s1 s2 s3 s4 s5 s0 s1 s2 s3 s4 s5
  have heq2 := fun W => eql_size W t0 t1 t2 t3 t4 t5 t0 t1 t2 t3 t4 t5
  simp only [szB_self] at heq1 heq2
  have HRA := Lib.hid hra
  have HRB := Lib.hid hrb
  have HAD := Lib.hid had
  have HSU := Lib.hid hsu
  have HRP := Lib.hid hRP
  have HRQ := Lib.hid hRQ
  have HTP := Lib.hid hTP
  have HTQ := Lib.hid hTQ
  clear ht h1 h2 hra hrb had hsu hRP hRQ hTP hTQ hxv hyv hxp hyp ra rb rc sa sb sc hA hB hD hE hl hm bx bY bz bu bv bt e0 e1 e2 f0 f1 f2 P0 P1 P2 Q0 Q1 Q2 hP0' hP1' hP2' hQ0' hQ1' hQ2' hDE hs htq
  go_enter Tryd.func5, Tryd.ntmps5
  go_wp2_with fail
  refine (lknown_any _ (HT.out.below HM0.out.below)).mono ?_
  rintro e w1 ⟨rfl, hb⟩
  have HM1 := Lib.hid (show Hp w [(w.heap.size, 28, [.int .i64 a0, .int .i64 b0, .int .i64 a1, .int .i64 b1, .int .i64 a2, .int .i64 b2]), (w.heap.size + 1, 28, [.int .i64 c0, .int .i64 d0, .int .i64 c1, .int .i64 d1, .int .i64 c2, .int .i64 d2])] _ from (HM0.out.step hb))
  obtain ⟨k0_0, k0_1, k0_2, k0_3, k0_4, k0_5⟩ := six_of (HM1.out.at_ 0 rfl)
  clear hb HM0
  go_wp2_with fail
  refine (HRA.out _).mono ?_
  rintro e w2 ⟨rfl, hb⟩
  obtain ⟨k1_0, k1_1, k1_2, k1_3, k1_4, k1_5⟩ := six_of ((HM1.out.step hb).at_ 1 rfl)
  have lt2 := ((HM1.out.step hb).at_ 1 rfl).lt
  have HM2 := Lib.hid (show Hp w [(w.heap.size, 28, [.int .i64 a0, .int .i64 b0, .int .i64 a1, .int .i64 b1, .int .i64 a2, .int .i64 b2]), (w.heap.size + 1, 28, [.int .i64 c0, .int .i64 d0, .int .i64 c1, .int .i64 d1, .int .i64 c2, .int .i64 d2]), (w2.heap.size, 34, [.int .i64 x, .int .i64 y, .int .i64 z, .int .i64 D])] _ from (HM1.out.step hb).new 34 [.int .i64 x, .int .i64 y, .int .i64 z, .int .i64 D])
  clear hb HM1 k0_0 k0_1 k0_2 k0_3 k0_4 k0_5
  go_wp2_with fail
  refine (HRB.out _).mono ?_
  rintro e w3 ⟨rfl, hb⟩
  obtain ⟨k2_0, k2_1, k2_2, k2_3, k2_4, k2_5⟩ := six_of ((HM2.out.step hb).at_ 0 rfl)
  have lt3 := ((HM2.out.step hb).at_ 0 rfl).lt
  obtain ⟨k3_0, k3_1, k3_2, k3_3, k3_4, k3_5⟩ := six_of ((HM2.out.step hb).at_ 1 rfl)
  have lt4 := ((HM2.out.step hb).at_ 1 rfl).lt
  have HM3 := Lib.hid (show Hp w [(w.heap.size, 28, [.int .i64 a0, .int .i64 b0, .int .i64 a1, .int .i64 b1, .int .i64 a2, .int .i64 b2]), (w.heap.size + 1, 28, [.int .i64 c0, .int .i64 d0, .int .i64 c1, .int .i64 d1, .int .i64 c2, .int .i64 d2]), (w2.heap.size, 34, [.int .i64 x, .int .i64 y, .int .i64 z, .int .i64 D]), (w3.heap.size, 34, [.int .i64 u, .int .i64 v, .int .i64 t, .int .i64 E])] _ from (HM2.out.step hb).new 34 [.int .i64 u, .int .i64 v, .int .i64 t, .int .i64 E])
  clear hb HM2 k1_0 k1_1 k1_2 k1_3 k1_4 k1_5 lt2
  go_wp2_with fail
  refine (HAD.out _).mono ?_
  rintro e w4 ⟨rfl, hb⟩
  obtain ⟨k4_0, k4_1, k4_2, k4_3, k4_4, k4_5⟩ := six_of ((HM3.out.step hb).at_ 0 rfl)
  have lt5 := ((HM3.out.step hb).at_ 0 rfl).lt
  obtain ⟨k5_0, k5_1, k5_2, k5_3, k5_4, k5_5⟩ := six_of ((HM3.out.step hb).at_ 1 rfl)
  have lt6 := ((HM3.out.step hb).at_ 1 rfl).lt
  have HM4 := Lib.hid (show Hp w [(w.heap.size, 28, [.int .i64 a0, .int .i64 b0, .int .i64 a1, .int .i64 b1, .int .i64 a2, .int .i64 b2]), (w.heap.size + 1, 28, [.int .i64 c0, .int .i64 d0, .int .i64 c1, .int .i64 d1, .int .i64 c2, .int .i64 d2]), (w2.heap.size, 34, [.int .i64 x, .int .i64 y, .int .i64 z, .int .i64 D]), (w3.heap.size, 34, [.int .i64 u, .int .i64 v, .int .i64 t, .int .i64 E]), (w4.heap.size, 28, [.int .i64 s0, .int .i64 s1, .int .i64 s2, .int .i64 s3, .int .i64 s4, .int .i64 s5])] _ from (HM3.out.step hb).new 28 [.int .i64 s0, .int .i64 s1, .int .i64 s2, .int .i64 s3, .int .i64 s4, .int .i64 s5])
  clear hb HM3 k2_0 k2_1 k2_2 k2_3 k2_4 k2_5 lt3 k3_0 k3_1 k3_2 k3_3 k3_4 k3_5 lt4
  go_wp2_with fail
  refine (HSU.out _).mono ?_
  rintro e w5 ⟨rfl, hb⟩
  obtain ⟨k6_0, k6_1, k6_2, k6_3⟩ := four_of ((HM4.out.step hb).at_ 2 rfl)
  have lt7 := ((HM4.out.step hb).at_ 2 rfl).lt
  obtain ⟨k7_0, k7_1, k7_2, k7_3⟩ := four_of ((HM4.out.step hb).at_ 3 rfl)
  have lt8 := ((HM4.out.step hb).at_ 3 rfl).lt
  have HM5 := Lib.hid (show Hp w [(w.heap.size, 28, [.int .i64 a0, .int .i64 b0, .int .i64 a1, .int .i64 b1, .int .i64 a2, .int .i64 b2]), (w.heap.size + 1, 28, [.int .i64 c0, .int .i64 d0, .int .i64 c1, .int .i64 d1, .int .i64 c2, .int .i64 d2]), (w2.heap.size, 34, [.int .i64 x, .int .i64 y, .int .i64 z, .int .i64 D]), (w3.heap.size, 34, [.int .i64 u, .int .i64 v, .int .i64 t, .int .i64 E]), (w4.heap.size, 28, [.int .i64 s0, .int .i64 s1, .int .i64 s2, .int .i64 s3, .int .i64 s4, .int .i64 s5]), (w5.heap.size, 28, [.int .i64 t0, .int .i64 t1, .int .i64 t2, .int .i64 t3, .int .i64 t4, .int .i64 t5])] _ from (HM4.out.step hb).new 28 [.int .i64 t0, .int .i64 t1, .int .i64 t2, .int .i64 t3, .int .i64 t4, .int .i64 t5])
  clear hb HM4 k4_0 k4_1 k4_2 k4_3 k4_4 k4_5 lt5 k5_0 k5_1 k5_2 k5_3 k5_4 k5_5 lt6
  go_wp2_with fail
  refine (HRP.out _).mono ?_
  rintro e w6 ⟨rfl, hb⟩
  have HM6 := Lib.hid (show Hp w [(w.heap.size, 28, [.int .i64 a0, .int .i64 b0, .int .i64 a1, .int .i64 b1, .int .i64 a2, .int .i64 b2]), (w.heap.size + 1, 28, [.int .i64 c0, .int .i64 d0, .int .i64 c1, .int .i64 d1, .int .i64 c2, .int .i64 d2]), (w2.heap.size, 34, [.int .i64 x, .int .i64 y, .int .i64 z, .int .i64 D]), (w3.heap.size, 34, [.int .i64 u, .int .i64 v, .int .i64 t, .int .i64 E]), (w4.heap.size, 28, [.int .i64 s0, .int .i64 s1, .int .i64 s2, .int .i64 s3, .int .i64 s4, .int .i64 s5]), (w5.heap.size, 28, [.int .i64 t0, .int .i64 t1, .int .i64 t2, .int .i64 t3, .int .i64 t4, .int .i64 t5])] _ from (HM5.out.step hb))
  clear hb HM5 k6_0 k6_1 k6_2 k6_3 lt7 k7_0 k7_1 k7_2 k7_3 lt8
  go_wp2_with fail
  refine (HTP.out _).mono ?_
  rintro e w7 ⟨rfl, hb⟩
  obtain ⟨k8_0, k8_1, k8_2, k8_3⟩ := four_of ((HM6.out.step hb).at_ 2 rfl)
  have lt9 := ((HM6.out.step hb).at_ 2 rfl).lt
  obtain ⟨k9_0, k9_1, k9_2, k9_3⟩ := four_of ((HM6.out.step hb).at_ 3 rfl)
  have lt10 := ((HM6.out.step hb).at_ 3 rfl).lt
  have HM7 := Lib.hid (show Hp w [(w.heap.size, 28, [.int .i64 a0, .int .i64 b0, .int .i64 a1, .int .i64 b1, .int .i64 a2, .int .i64 b2]), (w.heap.size + 1, 28, [.int .i64 c0, .int .i64 d0, .int .i64 c1, .int .i64 d1, .int .i64 c2, .int .i64 d2]), (w2.heap.size, 34, [.int .i64 x, .int .i64 y, .int .i64 z, .int .i64 D]), (w3.heap.size, 34, [.int .i64 u, .int .i64 v, .int .i64 t, .int .i64 E]), (w4.heap.size, 28, [.int .i64 s0, .int .i64 s1, .int .i64 s2, .int .i64 s3, .int .i64 s4, .int .i64 s5]), (w5.heap.size, 28, [.int .i64 t0, .int .i64 t1, .int .i64 t2, .int .i64 t3, .int .i64 t4, .int .i64 t5]), (w7.heap.size, 28, [.int .i64 s0, .int .i64 s1, .int .i64 s2, .int .i64 s3, .int .i64 s4, .int .i64 s5])] _ from (HM6.out.step hb).new 28 [.int .i64 s0, .int .i64 s1, .int .i64 s2, .int .i64 s3, .int .i64 s4, .int .i64 s5])
  clear hb HM6
  go_wp2_with fail
  refine (HRQ.out _).mono ?_
  rintro e w8 ⟨rfl, hb⟩
  have HM8 := Lib.hid (show Hp w [(w.heap.size, 28, [.int .i64 a0, .int .i64 b0, .int .i64 a1, .int .i64 b1, .int .i64 a2, .int .i64 b2]), (w.heap.size + 1, 28, [.int .i64 c0, .int .i64 d0, .int .i64 c1, .int .i64 d1, .int .i64 c2, .int .i64 d2]), (w2.heap.size, 34, [.int .i64 x, .int .i64 y, .int .i64 z, .int .i64 D]), (w3.heap.size, 34, [.int .i64 u, .int .i64 v, .int .i64 t, .int .i64 E]), (w4.heap.size, 28, [.int .i64 s0, .int .i64 s1, .int .i64 s2, .int .i64 s3, .int .i64 s4, .int .i64 s5]), (w5.heap.size, 28, [.int .i64 t0, .int .i64 t1, .int .i64 t2, .int .i64 t3, .int .i64 t4, .int .i64 t5]), (w7.heap.size, 28, [.int .i64 s0, .int .i64 s1, .int .i64 s2, .int .i64 s3, .int .i64 s4, .int .i64 s5])] _ from (HM7.out.step hb))
  clear hb HM7 k8_0 k8_1 k8_2 k8_3 lt9 k9_0 k9_1 k9_2 k9_3 lt10
  go_wp2_with fail
  refine (HTQ.out _).mono ?_
  rintro e w9 ⟨rfl, hb⟩
  obtain ⟨k10_0, k10_1, k10_2, k10_3, k10_4, k10_5⟩ := six_of ((HM8.out.step hb).at_ 4 rfl)
  have lt11 := ((HM8.out.step hb).at_ 4 rfl).lt
  obtain ⟨k11_0, k11_1, k11_2, k11_3, k11_4, k11_5⟩ := six_of ((HM8.out.step hb).at_ 5 rfl)
  have lt12 := ((HM8.out.step hb).at_ 5 rfl).lt
  obtain ⟨k12_0, k12_1, k12_2, k12_3, k12_4, k12_5⟩ := six_of ((HM8.out.step hb).at_ 6 rfl)
  have lt13 := ((HM8.out.step hb).at_ 6 rfl).lt
  have HM9 := Lib.hid (show Hp w [(w.heap.size, 28, [.int .i64 a0, .int .i64 b0, .int .i64 a1, .int .i64 b1, .int .i64 a2, .int .i64 b2]), (w.heap.size + 1, 28, [.int .i64 c0, .int .i64 d0, .int .i64 c1, .int .i64 d1, .int .i64 c2, .int .i64 d2]), (w2.heap.size, 34, [.int .i64 x, .int .i64 y, .int .i64 z, .int .i64 D]), (w3.heap.size, 34, [.int .i64 u, .int .i64 v, .int .i64 t, .int .i64 E]), (w4.heap.size, 28, [.int .i64 s0, .int .i64 s1, .int .i64 s2, .int .i64 s3, .int .i64 s4, .int .i64 s5]), (w5.heap.size, 28, [.int .i64 t0, .int .i64 t1, .int .i64 t2, .int .i64 t3, .int .i64 t4, .int .i64 t5]), (w7.heap.size, 28, [.int .i64 s0, .int .i64 s1, .int .i64 s2, .int .i64 s3, .int .i64 s4, .int .i64 s5]), (w9.heap.size, 28, [.int .i64 t0, .int .i64 t1, .int .i64 t2, .int .i64 t3, .int .i64 t4, .int .i64 t5])] _ from (HM8.out.step hb).new 28 [.int .i64 t0, .int .i64 t1, .int .i64 t2, .int .i64 t3, .int .i64 t4, .int .i64 t5])
  clear hb HM8
  go_wp2
  go_ret
  exact ⟨rfl, HM9.out.below⟩
theorem ladds_any (a0 b0 a1 b1 a2 b2 c0 d0 c1 d1 c2 d2 : Int) (w : World) (ht : Tab w) (ha : (I64 a0 ∧ I64 b0) ∧ (I64 a1 ∧ I64 b1) ∧ I64 a2 ∧ I64 b2) (hb : (I64 c0 ∧ I64 d0) ∧ (I64 c1 ∧ I64 d1) ∧ I64 c2 ∧ I64 d2) :
    Calls Tryd.prog 5 #[szv a0 b0 a1 b1 a2 b2, szv c0 d0 c1 d1 c2 d2] w fun e w' => e = .returned (.bool true) ∧ Below w.heap.size w w' := by
  have hi : ∀ k ∈ [a0, b0, a1, b1, a2, b2, c0, d0, c1, d1, c2, d2], I64 k := by
    intro k hk
    simp only [List.mem_cons, List.not_mem_nil, or_false] at hk
    obtain ⟨⟨i0, i1⟩, ⟨i2, i3⟩, i4, i5⟩ := ha
    obtain ⟨⟨j0, j1⟩, ⟨j2, j3⟩, j4, j5⟩ := hb
    rcases hk with rfl | rfl | rfl | rfl | rfl | rfl | rfl | rfl | rfl | rfl | rfl | rfl <;> assumption
  by_cases h : (if ivE [(a0, b0), (a1, b1), (a2, b2)] ≠ 0 then ivE [(a0, b0), (a1, b1), (a2, b2)] else ivE [(c0, d0), (c1, d1), (c2, d2)]) = 0
  · by_cases h1 : ivE [(a0, b0), (a1, b1), (a2, b2)] = 0
    · rw [if_neg (fun k => k h1)] at h
      exact ladds_ok a0 b0 a1 b1 a2 b2 c0 d0 c1 d1 c2 d2 w ht h1 h
    · rw [if_pos h1] at h
      exact absurd h h1
  · exact ladds_err a0 b0 a1 b1 a2 b2 c0 d0 c1 d1 c2 d2 w ht hi h
end Go.Proofs.YtplonkeipdbchaaDoor
