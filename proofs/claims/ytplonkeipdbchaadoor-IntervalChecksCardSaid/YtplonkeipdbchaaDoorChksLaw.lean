/- Law IntervalChecks: the walk. Conditions: parts are ints; the library's table of powers of ten reads as its text lays it. Printed by genchkslaw.py. -/
import Derived.Test.YtplonkeipdbchaaDoorIvAdd
import Derived.Test.YtplonkeipdbchaaDoorLaw05
import Derived.Test.YtplonkeipdbchaaDoorKnown05
import Derived.Test.YtplonkeipdbchaaDoorIvSign
import Derived.Test.YtplonkeipdbchaaDoorIvErrs
namespace Go.Proofs.YtplonkeipdbchaaDoor
open Go.RowKit

theorem fifth_right : ivE [((-1 : Int), (1 : Int)), (1, 1), (0, 1)] = 0 := by
  have h : ∀ q ∈ [((-1 : Int), (1 : Int)), (1, 1), (0, 1)], Right q.1 q.2 := by
    intro q hq
    simp only [List.mem_cons, List.not_mem_nil, or_false] at hq
    rcases hq with rfl | rfl | rfl <;> exact ⟨by decide, by decide, by decide, by decide, by decide⟩
  exact ivE_ok h (by decide)
theorem fifth_of (w : World) : Calls Tryd.prog 10 #[.int .i64 (-1), .int .i64 1, .int .i64 0] w fun e w' => e = .returned (.tuple #[szv (-1) 1 1 1 0 1, .int .i64 0]) ∧ Below w.heap.size w w' := by
  have h := iof_any (-1) 1 0 w ⟨by decide, by decide⟩ ⟨by decide, by decide⟩ ⟨by decide, by decide⟩
  rw [show ivR (-1) 1 1 1 0 1 = .tuple #[szv (-1) 1 1 1 0 1, .int .i64 0] by unfold ivR; rw [if_pos fifth_right]] at h
  exact h
set_option maxRecDepth 100000 in
set_option maxHeartbeats 16000000 in
/-- The size is right. -/
theorem lchks_ok (a0 b0 a1 b1 a2 b2 : Int) (w : World) (ht : Tab w) (hi : ∀ k ∈ [a0, b0, a1, b1, a2, b2], I64 k) (h : ivE [(a0, b0), (a1, b1), (a2, b2)] = 0) :
    Calls Tryd.prog 8 #[szv a0 b0 a1 b1 a2 b2] w fun e w' => e = .returned (.bool true) ∧ Below w.heap.size w w' := by
  have HM0 := Lib.hid ((Hp.start w).new 28 [.int .i64 a0, .int .i64 b0, .int .i64 a1, .int .i64 b1, .int .i64 a2, .int .i64 b2])
  have HT := Lib.hid ht
  have hra := fun W => lread_any a0 b0 a1 b1 a2 b2 W
  have hck := fun W => icheck_any a0 b0 a1 b1 a2 b2 W (hi _ (by simp)) (hi _ (by simp)) (hi _ (by simp)) (hi _ (by simp)) (hi _ (by simp)) (hi _ (by simp))
  obtain ⟨xa, xb, xc, xd, hxv, _, _⟩ := rdV_form a0 b0 a1 b1 a2 b2
  rw [hxv, h] at hra
  rw [h] at hck
  have HRA := Lib.hid hra
  have HCK := Lib.hid hck
  clear ht hra hck hxv h hi
  go_enter Tryd.func8, Tryd.ntmps8
  go_wp2_with fail
  refine (lknown_any _ (HT.out.below HM0.out.below)).mono ?_
  rintro e w1 ⟨rfl, hb⟩
  have HM1 := Lib.hid (show Hp w [(w.heap.size, 28, [.int .i64 a0, .int .i64 b0, .int .i64 a1, .int .i64 b1, .int .i64 a2, .int .i64 b2])] _ from (HM0.out.step hb))
  obtain ⟨k0_0, k0_1, k0_2, k0_3, k0_4, k0_5⟩ := six_of (HM1.out.at_ 0 rfl)
  clear hb HM0
  go_wp2_with fail
  refine (HRA.out _).mono ?_
  rintro e w2 ⟨rfl, hb⟩
  obtain ⟨k1_0, k1_1, k1_2, k1_3, k1_4, k1_5⟩ := six_of ((HM1.out.step hb).at_ 0 rfl)
  have lt2 := ((HM1.out.step hb).at_ 0 rfl).lt
  have HM2 := Lib.hid (show Hp w [(w.heap.size, 28, [.int .i64 a0, .int .i64 b0, .int .i64 a1, .int .i64 b1, .int .i64 a2, .int .i64 b2]), (w2.heap.size, 34, [.int .i64 xa, .int .i64 xb, .int .i64 xc, .int .i64 xd])] _ from (HM1.out.step hb).new 34 [.int .i64 xa, .int .i64 xb, .int .i64 xc, .int .i64 xd])
  clear hb HM1 k0_0 k0_1 k0_2 k0_3 k0_4 k0_5
  go_wp2_with fail
  refine (HCK.out _).mono ?_
  rintro e w3 ⟨rfl, hb⟩
  have HM3 := Lib.hid (show Hp w [(w.heap.size, 28, [.int .i64 a0, .int .i64 b0, .int .i64 a1, .int .i64 b1, .int .i64 a2, .int .i64 b2]), (w2.heap.size, 34, [.int .i64 xa, .int .i64 xb, .int .i64 xc, .int .i64 xd])] _ from (HM2.out.step hb))
  clear hb HM2 k1_0 k1_1 k1_2 k1_3 k1_4 k1_5 lt2
  go_wp2
  go_ret
  exact ⟨rfl, HM3.out.below⟩
set_option maxRecDepth 100000 in
set_option maxHeartbeats 16000000 in
/-- The size is wrong. -/
theorem lchks_err (a0 b0 a1 b1 a2 b2 : Int) (w : World) (ht : Tab w) (hi : ∀ k ∈ [a0, b0, a1, b1, a2, b2], I64 k) (h : ivE [(a0, b0), (a1, b1), (a2, b2)] ≠ 0) :
    Calls Tryd.prog 8 #[szv a0 b0 a1 b1 a2 b2] w fun e w' => e = .returned (.bool true) ∧ Below w.heap.size w w' := by
  have HM0 := Lib.hid ((Hp.start w).new 28 [.int .i64 a0, .int .i64 b0, .int .i64 a1, .int .i64 b1, .int .i64 a2, .int .i64 b2])
  have HT := Lib.hid ht
  have hra := fun W => lread_any a0 b0 a1 b1 a2 b2 W
  have hck := fun W => icheck_any a0 b0 a1 b1 a2 b2 W (hi _ (by simp)) (hi _ (by simp)) (hi _ (by simp)) (hi _ (by simp)) (hi _ (by simp)) (hi _ (by simp))
  have hi1 : ∀ k ∈ [a0, b0, a1, b1, a2, b2, -1, 1, 1, 1, 0, 1], I64 k := by
    intro k hk
    simp only [List.mem_cons, List.not_mem_nil, or_false] at hk
    rcases hk with rfl | rfl | rfl | rfl | rfl | rfl | rfl | rfl | rfl | rfl | rfl | rfl <;> first | exact ⟨by decide, by decide⟩ | exact hi _ (by simp)
  have hi2 : ∀ k ∈ [-1, 1, 1, 1, 0, 1, a0, b0, a1, b1, a2, b2], I64 k := by
    intro k hk
    simp only [List.mem_cons, List.not_mem_nil, or_false] at hk
    rcases hk with rfl | rfl | rfl | rfl | rfl | rfl | rfl | rfl | rfl | rfl | rfl | rfl <;> first | exact ⟨by decide, by decide⟩ | exact hi _ (by simp)
  have had := fun W => iAdd_err a0 b0 a1 b1 a2 b2 (-1) 1 1 1 0 1 W hi1 (by rw [if_pos h]; exact h)
  rw [if_pos h] at had
  have hsu := fun W => iSub_err (-1) 1 1 1 0 1 a0 b0 a1 b1 a2 b2 W hi2 (by rw [if_neg (fun k => k fifth_right)]; exact h)
  rw [if_neg (fun k => k fifth_right)] at hsu
  have hcm := fun W => iCompare_err (-1) 1 1 1 0 1 a0 b0 a1 b1 a2 b2 W hi2 (by rw [if_neg (fun k => k fifth_right)]; exact h)
  rw [if_neg (fun k => k fifth_right)] at hcm
  have hsc := fun W => iScale_err a0 b0 a1 b1 a2 b2 1 1 W hi h
  have hsg := fun W => iSign_err a0 b0 a1 b1 a2 b2 W hi h
  have hre := fun W => iReduce_err a0 b0 a1 b1 a2 b2 W hi h
  have hce := fun W => icents_err a0 b0 a1 b1 a2 b2 W (hi _ (by simp)) (hi _ (by simp)) (hi _ (by simp)) (hi _ (by simp)) (hi _ (by simp)) (hi _ (by simp)) h
  obtain ⟨xa, xb, xc, xd, hxv, _, _⟩ := rdV_form a0 b0 a1 b1 a2 b2
  rw [hxv] at hra
  obtain ⟨r, hr⟩ : ∃ r, r = ivE [(a0, b0), (a1, b1), (a2, b2)] := ⟨_, rfl⟩
  rw [← hr] at hra hck had hsu hcm hsc hsg hre hce h
  have hz1 : (r == 0) = false := by simpa using h
  have hn : (r != r) = false := by simp
  have heq := fun W => eql_size W 0 0 0 0 0 0 0 0 0 0 0 0
  simp only [szB_self] at heq
  have HRA := Lib.hid hra
  have HCK := Lib.hid hck
  have HAD := Lib.hid had
  have HSU := Lib.hid hsu
  have HCM := Lib.hid hcm
  have HSC := Lib.hid hsc
  have HSG := Lib.hid hsg
  have HRE := Lib.hid hre
  have HCE := Lib.hid hce
  clear ht hra hck had hsu hcm hsc hsg hre hce hxv h hi hi1 hi2 hr
  go_enter Tryd.func8, Tryd.ntmps8
  go_wp2_with fail
  refine (lknown_any _ (HT.out.below HM0.out.below)).mono ?_
  rintro e w1 ⟨rfl, hb⟩
  have HM1 := Lib.hid (show Hp w [(w.heap.size, 28, [.int .i64 a0, .int .i64 b0, .int .i64 a1, .int .i64 b1, .int .i64 a2, .int .i64 b2])] _ from (HM0.out.step hb))
  obtain ⟨k0_0, k0_1, k0_2, k0_3, k0_4, k0_5⟩ := six_of (HM1.out.at_ 0 rfl)
  clear hb HM0
  go_wp2_with fail
  refine (HRA.out _).mono ?_
  rintro e w2 ⟨rfl, hb⟩
  obtain ⟨k1_0, k1_1, k1_2, k1_3, k1_4, k1_5⟩ := six_of ((HM1.out.step hb).at_ 0 rfl)
  have lt2 := ((HM1.out.step hb).at_ 0 rfl).lt
  have HM2 := Lib.hid (show Hp w [(w.heap.size, 28, [.int .i64 a0, .int .i64 b0, .int .i64 a1, .int .i64 b1, .int .i64 a2, .int .i64 b2]), (w2.heap.size, 34, [.int .i64 xa, .int .i64 xb, .int .i64 xc, .int .i64 xd])] _ from (HM1.out.step hb).new 34 [.int .i64 xa, .int .i64 xb, .int .i64 xc, .int .i64 xd])
  clear hb HM1 k0_0 k0_1 k0_2 k0_3 k0_4 k0_5
  go_wp2_with fail
  refine (HCK.out _).mono ?_
  rintro e w3 ⟨rfl, hb⟩
  have HM3 := Lib.hid (show Hp w [(w.heap.size, 28, [.int .i64 a0, .int .i64 b0, .int .i64 a1, .int .i64 b1, .int .i64 a2, .int .i64 b2]), (w2.heap.size, 34, [.int .i64 xa, .int .i64 xb, .int .i64 xc, .int .i64 xd])] _ from HM2.out.step hb)
  have HM4 := Lib.hid (show Hp w [(w.heap.size, 28, [.int .i64 a0, .int .i64 b0, .int .i64 a1, .int .i64 b1, .int .i64 a2, .int .i64 b2]), (w2.heap.size, 34, [.int .i64 xa, .int .i64 xb, .int .i64 xc, .int .i64 xd]), (w3.heap.size, 28, [.int .i64 0, .int .i64 0, .int .i64 0, .int .i64 0, .int .i64 0, .int .i64 0]), (w3.heap.size + 1, 26, [.int .i64 1, .int .i64 1])] ((w3.alloc (.cells #[.int .i64 0, .int .i64 0, .int .i64 0, .int .i64 0, .int .i64 0, .int .i64 0] 28)).alloc (.cells #[.int .i64 1, .int .i64 1] 26)) from by
    have h := (HM3.out.new 28 [.int .i64 0, .int .i64 0, .int .i64 0, .int .i64 0, .int .i64 0, .int .i64 0]).new 26 [.int .i64 1, .int .i64 1]
    simp only [World.size_alloc] at h
    exact h)
  clear hb HM2 HM3 k1_0 k1_1 k1_2 k1_3 k1_4 k1_5 lt2
  go_wp2_with fail
  refine (fifth_of _).mono ?_
  rintro e w5 ⟨rfl, hb⟩
  obtain ⟨k2_0, k2_1, k2_2, k2_3, k2_4, k2_5⟩ := six_of ((HM4.out.step hb).at_ 0 rfl)
  have lt3 := ((HM4.out.step hb).at_ 0 rfl).lt
  have HM5 := Lib.hid (show Hp w [(w.heap.size, 28, [.int .i64 a0, .int .i64 b0, .int .i64 a1, .int .i64 b1, .int .i64 a2, .int .i64 b2]), (w2.heap.size, 34, [.int .i64 xa, .int .i64 xb, .int .i64 xc, .int .i64 xd]), (w3.heap.size, 28, [.int .i64 0, .int .i64 0, .int .i64 0, .int .i64 0, .int .i64 0, .int .i64 0]), (w3.heap.size + 1, 26, [.int .i64 1, .int .i64 1]), (w5.heap.size, 28, [.int .i64 ((-1)), .int .i64 1, .int .i64 1, .int .i64 1, .int .i64 0, .int .i64 1])] _ from (HM4.out.step hb).new 28 [.int .i64 ((-1)), .int .i64 1, .int .i64 1, .int .i64 1, .int .i64 0, .int .i64 1])
  clear hb HM4
  go_wp2_with fail
  refine (HAD.out _).mono ?_
  rintro e w6 ⟨rfl, hb⟩
  obtain ⟨k3_0, k3_1, k3_2, k3_3, k3_4, k3_5⟩ := six_of ((HM5.out.step hb).at_ 0 rfl)
  have lt4 := ((HM5.out.step hb).at_ 0 rfl).lt
  obtain ⟨k4_0, k4_1, k4_2, k4_3, k4_4, k4_5⟩ := six_of ((HM5.out.step hb).at_ 4 rfl)
  have lt5 := ((HM5.out.step hb).at_ 4 rfl).lt
  have HM6 := Lib.hid (show Hp w [(w.heap.size, 28, [.int .i64 a0, .int .i64 b0, .int .i64 a1, .int .i64 b1, .int .i64 a2, .int .i64 b2]), (w2.heap.size, 34, [.int .i64 xa, .int .i64 xb, .int .i64 xc, .int .i64 xd]), (w3.heap.size, 28, [.int .i64 0, .int .i64 0, .int .i64 0, .int .i64 0, .int .i64 0, .int .i64 0]), (w3.heap.size + 1, 26, [.int .i64 1, .int .i64 1]), (w5.heap.size, 28, [.int .i64 ((-1)), .int .i64 1, .int .i64 1, .int .i64 1, .int .i64 0, .int .i64 1]), (w6.heap.size, 28, [.int .i64 0, .int .i64 0, .int .i64 0, .int .i64 0, .int .i64 0, .int .i64 0])] _ from (HM5.out.step hb).new 28 [.int .i64 0, .int .i64 0, .int .i64 0, .int .i64 0, .int .i64 0, .int .i64 0])
  clear hb HM5 k2_0 k2_1 k2_2 k2_3 k2_4 k2_5 lt3
  go_wp2_with fail
  refine (HSU.out _).mono ?_
  rintro e w7 ⟨rfl, hb⟩
  obtain ⟨k5_0, k5_1, k5_2, k5_3, k5_4, k5_5⟩ := six_of ((HM6.out.step hb).at_ 0 rfl)
  have lt6 := ((HM6.out.step hb).at_ 0 rfl).lt
  obtain ⟨k6_0, k6_1⟩ := (⟨((HM6.out.step hb).at_ 3 rfl).cell 0, ((HM6.out.step hb).at_ 3 rfl).cell 1⟩ : _ ∧ _)
  have lt7 := ((HM6.out.step hb).at_ 3 rfl).lt
  have HM7 := Lib.hid (show Hp w [(w.heap.size, 28, [.int .i64 a0, .int .i64 b0, .int .i64 a1, .int .i64 b1, .int .i64 a2, .int .i64 b2]), (w2.heap.size, 34, [.int .i64 xa, .int .i64 xb, .int .i64 xc, .int .i64 xd]), (w3.heap.size, 28, [.int .i64 0, .int .i64 0, .int .i64 0, .int .i64 0, .int .i64 0, .int .i64 0]), (w3.heap.size + 1, 26, [.int .i64 1, .int .i64 1]), (w5.heap.size, 28, [.int .i64 ((-1)), .int .i64 1, .int .i64 1, .int .i64 1, .int .i64 0, .int .i64 1]), (w6.heap.size, 28, [.int .i64 0, .int .i64 0, .int .i64 0, .int .i64 0, .int .i64 0, .int .i64 0]), (w7.heap.size, 28, [.int .i64 0, .int .i64 0, .int .i64 0, .int .i64 0, .int .i64 0, .int .i64 0])] _ from (HM6.out.step hb).new 28 [.int .i64 0, .int .i64 0, .int .i64 0, .int .i64 0, .int .i64 0, .int .i64 0])
  clear hb HM6 k3_0 k3_1 k3_2 k3_3 k3_4 k3_5 lt4 k4_0 k4_1 k4_2 k4_3 k4_4 k4_5 lt5
  go_wp2_with fail
  refine (HSC.out _).mono ?_
  rintro e w8 ⟨rfl, hb⟩
  obtain ⟨k7_0, k7_1, k7_2, k7_3, k7_4, k7_5⟩ := six_of ((HM7.out.step hb).at_ 0 rfl)
  have lt8 := ((HM7.out.step hb).at_ 0 rfl).lt
  have HM8 := Lib.hid (show Hp w [(w.heap.size, 28, [.int .i64 a0, .int .i64 b0, .int .i64 a1, .int .i64 b1, .int .i64 a2, .int .i64 b2]), (w2.heap.size, 34, [.int .i64 xa, .int .i64 xb, .int .i64 xc, .int .i64 xd]), (w3.heap.size, 28, [.int .i64 0, .int .i64 0, .int .i64 0, .int .i64 0, .int .i64 0, .int .i64 0]), (w3.heap.size + 1, 26, [.int .i64 1, .int .i64 1]), (w5.heap.size, 28, [.int .i64 ((-1)), .int .i64 1, .int .i64 1, .int .i64 1, .int .i64 0, .int .i64 1]), (w6.heap.size, 28, [.int .i64 0, .int .i64 0, .int .i64 0, .int .i64 0, .int .i64 0, .int .i64 0]), (w7.heap.size, 28, [.int .i64 0, .int .i64 0, .int .i64 0, .int .i64 0, .int .i64 0, .int .i64 0]), (w8.heap.size, 28, [.int .i64 0, .int .i64 0, .int .i64 0, .int .i64 0, .int .i64 0, .int .i64 0])] _ from (HM7.out.step hb).new 28 [.int .i64 0, .int .i64 0, .int .i64 0, .int .i64 0, .int .i64 0, .int .i64 0])
  clear hb HM7 k5_0 k5_1 k5_2 k5_3 k5_4 k5_5 lt6 k6_0 k6_1 lt7
  go_wp2_with fail
  refine (HSG.out _).mono ?_
  rintro e w9 ⟨rfl, hb⟩
  have HM9 := Lib.hid (show Hp w [(w.heap.size, 28, [.int .i64 a0, .int .i64 b0, .int .i64 a1, .int .i64 b1, .int .i64 a2, .int .i64 b2]), (w2.heap.size, 34, [.int .i64 xa, .int .i64 xb, .int .i64 xc, .int .i64 xd]), (w3.heap.size, 28, [.int .i64 0, .int .i64 0, .int .i64 0, .int .i64 0, .int .i64 0, .int .i64 0]), (w3.heap.size + 1, 26, [.int .i64 1, .int .i64 1]), (w5.heap.size, 28, [.int .i64 ((-1)), .int .i64 1, .int .i64 1, .int .i64 1, .int .i64 0, .int .i64 1]), (w6.heap.size, 28, [.int .i64 0, .int .i64 0, .int .i64 0, .int .i64 0, .int .i64 0, .int .i64 0]), (w7.heap.size, 28, [.int .i64 0, .int .i64 0, .int .i64 0, .int .i64 0, .int .i64 0, .int .i64 0]), (w8.heap.size, 28, [.int .i64 0, .int .i64 0, .int .i64 0, .int .i64 0, .int .i64 0, .int .i64 0])] _ from (HM8.out.step hb))
  obtain ⟨k8_0, k8_1, k8_2, k8_3, k8_4, k8_5⟩ := six_of (HM9.out.at_ 0 rfl)
  obtain ⟨k9_0, k9_1, k9_2, k9_3, k9_4, k9_5⟩ := six_of (HM9.out.at_ 4 rfl)
  clear hb HM8 k7_0 k7_1 k7_2 k7_3 k7_4 k7_5 lt8
  go_wp2_with fail
  refine (HCM.out _).mono ?_
  rintro e w10 ⟨rfl, hb⟩
  have HM10 := Lib.hid (show Hp w [(w.heap.size, 28, [.int .i64 a0, .int .i64 b0, .int .i64 a1, .int .i64 b1, .int .i64 a2, .int .i64 b2]), (w2.heap.size, 34, [.int .i64 xa, .int .i64 xb, .int .i64 xc, .int .i64 xd]), (w3.heap.size, 28, [.int .i64 0, .int .i64 0, .int .i64 0, .int .i64 0, .int .i64 0, .int .i64 0]), (w3.heap.size + 1, 26, [.int .i64 1, .int .i64 1]), (w5.heap.size, 28, [.int .i64 ((-1)), .int .i64 1, .int .i64 1, .int .i64 1, .int .i64 0, .int .i64 1]), (w6.heap.size, 28, [.int .i64 0, .int .i64 0, .int .i64 0, .int .i64 0, .int .i64 0, .int .i64 0]), (w7.heap.size, 28, [.int .i64 0, .int .i64 0, .int .i64 0, .int .i64 0, .int .i64 0, .int .i64 0]), (w8.heap.size, 28, [.int .i64 0, .int .i64 0, .int .i64 0, .int .i64 0, .int .i64 0, .int .i64 0])] _ from (HM9.out.step hb))
  obtain ⟨k10_0, k10_1, k10_2, k10_3, k10_4, k10_5⟩ := six_of (HM10.out.at_ 0 rfl)
  clear hb HM9 k8_0 k8_1 k8_2 k8_3 k8_4 k8_5 k9_0 k9_1 k9_2 k9_3 k9_4 k9_5
  go_wp2_with fail
  refine (HRE.out _).mono ?_
  rintro e w11 ⟨rfl, hb⟩
  obtain ⟨k11_0, k11_1, k11_2, k11_3, k11_4, k11_5⟩ := six_of ((HM10.out.step hb).at_ 0 rfl)
  have lt12 := ((HM10.out.step hb).at_ 0 rfl).lt
  have HM11 := Lib.hid (show Hp w [(w.heap.size, 28, [.int .i64 a0, .int .i64 b0, .int .i64 a1, .int .i64 b1, .int .i64 a2, .int .i64 b2]), (w2.heap.size, 34, [.int .i64 xa, .int .i64 xb, .int .i64 xc, .int .i64 xd]), (w3.heap.size, 28, [.int .i64 0, .int .i64 0, .int .i64 0, .int .i64 0, .int .i64 0, .int .i64 0]), (w3.heap.size + 1, 26, [.int .i64 1, .int .i64 1]), (w5.heap.size, 28, [.int .i64 ((-1)), .int .i64 1, .int .i64 1, .int .i64 1, .int .i64 0, .int .i64 1]), (w6.heap.size, 28, [.int .i64 0, .int .i64 0, .int .i64 0, .int .i64 0, .int .i64 0, .int .i64 0]), (w7.heap.size, 28, [.int .i64 0, .int .i64 0, .int .i64 0, .int .i64 0, .int .i64 0, .int .i64 0]), (w8.heap.size, 28, [.int .i64 0, .int .i64 0, .int .i64 0, .int .i64 0, .int .i64 0, .int .i64 0]), (w11.heap.size, 28, [.int .i64 0, .int .i64 0, .int .i64 0, .int .i64 0, .int .i64 0, .int .i64 0])] _ from (HM10.out.step hb).new 28 [.int .i64 0, .int .i64 0, .int .i64 0, .int .i64 0, .int .i64 0, .int .i64 0])
  clear hb HM10 k10_0 k10_1 k10_2 k10_3 k10_4 k10_5
  go_wp2_with fail
  refine (HCE.out _).mono ?_
  rintro e w12 ⟨rfl, hb⟩
  have HM12 := Lib.hid (show Hp w [(w.heap.size, 28, [.int .i64 a0, .int .i64 b0, .int .i64 a1, .int .i64 b1, .int .i64 a2, .int .i64 b2]), (w2.heap.size, 34, [.int .i64 xa, .int .i64 xb, .int .i64 xc, .int .i64 xd]), (w3.heap.size, 28, [.int .i64 0, .int .i64 0, .int .i64 0, .int .i64 0, .int .i64 0, .int .i64 0]), (w3.heap.size + 1, 26, [.int .i64 1, .int .i64 1]), (w5.heap.size, 28, [.int .i64 ((-1)), .int .i64 1, .int .i64 1, .int .i64 1, .int .i64 0, .int .i64 1]), (w6.heap.size, 28, [.int .i64 0, .int .i64 0, .int .i64 0, .int .i64 0, .int .i64 0, .int .i64 0]), (w7.heap.size, 28, [.int .i64 0, .int .i64 0, .int .i64 0, .int .i64 0, .int .i64 0, .int .i64 0]), (w8.heap.size, 28, [.int .i64 0, .int .i64 0, .int .i64 0, .int .i64 0, .int .i64 0, .int .i64 0]), (w11.heap.size, 28, [.int .i64 0, .int .i64 0, .int .i64 0, .int .i64 0, .int .i64 0, .int .i64 0])] _ from (HM11.out.step hb))
  obtain ⟨k12_0, k12_1, k12_2, k12_3, k12_4, k12_5⟩ := six_of (HM12.out.at_ 2 rfl)
  obtain ⟨k13_0, k13_1, k13_2, k13_3, k13_4, k13_5⟩ := six_of (HM12.out.at_ 5 rfl)
  obtain ⟨k14_0, k14_1, k14_2, k14_3, k14_4, k14_5⟩ := six_of (HM12.out.at_ 6 rfl)
  obtain ⟨k15_0, k15_1, k15_2, k15_3, k15_4, k15_5⟩ := six_of (HM12.out.at_ 7 rfl)
  obtain ⟨k16_0, k16_1, k16_2, k16_3, k16_4, k16_5⟩ := six_of (HM12.out.at_ 8 rfl)
  clear hb HM11 k11_0 k11_1 k11_2 k11_3 k11_4 k11_5 lt12
  go_wp2
  go_ret
  exact ⟨rfl, HM12.out.below⟩
theorem lchks_any (a0 b0 a1 b1 a2 b2 : Int) (w : World) (ht : Tab w) (ha : (I64 a0 ∧ I64 b0) ∧ (I64 a1 ∧ I64 b1) ∧ I64 a2 ∧ I64 b2) :
    Calls Tryd.prog 8 #[szv a0 b0 a1 b1 a2 b2] w fun e w' => e = .returned (.bool true) ∧ Below w.heap.size w w' := by
  have hi : ∀ k ∈ [a0, b0, a1, b1, a2, b2], I64 k := by
    intro k hk
    simp only [List.mem_cons, List.not_mem_nil, or_false] at hk
    obtain ⟨⟨i0, i1⟩, ⟨i2, i3⟩, i4, i5⟩ := ha
    rcases hk with rfl | rfl | rfl | rfl | rfl | rfl <;> assumption
  by_cases h : ivE [(a0, b0), (a1, b1), (a2, b2)] = 0
  · exact lchks_ok a0 b0 a1 b1 a2 b2 w ht hi h
  · exact lchks_err a0 b0 a1 b1 a2 b2 w ht hi h
end Go.Proofs.YtplonkeipdbchaaDoor
