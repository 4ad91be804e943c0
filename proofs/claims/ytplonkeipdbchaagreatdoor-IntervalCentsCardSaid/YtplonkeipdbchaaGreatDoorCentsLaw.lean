/- Law IntervalCents: the walk. Conditions: parts are ints; the library's table of powers of ten reads as its text lays it. Printed by gencentslaw.py. -/
import Derived.Test.YtplonkeipdbchaaGreatDoorRefCents2
import Derived.Test.YtplonkeipdbchaaGreatDoorIvLow
import Derived.Test.YtplonkeipdbchaaGreatDoorLaw05
import Derived.Test.YtplonkeipdbchaaGreatDoorKnown05
namespace Go.Proofs.YtplonkeipdbchaaGreatDoor
open Go.RowKit

theorem right_i64C {a b : Int} (h : Right a b) : I64 a ∧ I64 b := by
  obtain ⟨h1, h2, h3, h4, _⟩ := h
  exact ⟨⟨by omega, by omega⟩, by omega, by omega⟩
theorem ivE_rightC {a0 b0 a1 b1 a2 b2 : Int} (h : ivE [(a0, b0), (a1, b1), (a2, b2)] = 0) : Right a0 b0 ∧ Right a1 b1 ∧ Right a2 b2 := by
  have h1 : ∀ q ∈ [(a0, b0), (a1, b1), (a2, b2)], Right q.1 q.2 := by
    apply Decidable.byContradiction
    intro hc
    unfold ivE at h
    rw [if_neg hc] at h
    exact absurd h (by decide)
  exact ⟨h1 (a0, b0) (by simp), h1 (a1, b1) (by simp), h1 (a2, b2) (by simp)⟩
set_option maxRecDepth 100000 in
set_option maxHeartbeats 8000000 in
theorem lcents_err (a0 b0 a1 b1 a2 b2 : Int) (w : World) (ht : Tab w) (h : ivE [(a0, b0), (a1, b1), (a2, b2)] ≠ 0) :
    Calls Tryz.prog 3 #[szv a0 b0 a1 b1 a2 b2] w fun e w' => e = .returned (.bool true) ∧ Below w.heap.size w w' := by
  have HM0 := Lib.hid (show Hp w [(w.heap.size, 25, [.int .i64 a0, .int .i64 b0, .int .i64 a1, .int .i64 b1, .int .i64 a2, .int .i64 b2])] (w.alloc (.cells #[.int .i64 a0, .int .i64 b0, .int .i64 a1, .int .i64 b1, .int .i64 a2, .int .i64 b2] 25)) from (Hp.start w).new 25 [.int .i64 a0, .int .i64 b0, .int .i64 a1, .int .i64 b1, .int .i64 a2, .int .i64 b2])
  have HT := Lib.hid ht
  have hra := fun W => lread_any a0 b0 a1 b1 a2 b2 W
  obtain ⟨xa, xb, xc, xd, hxv, _, _⟩ := rdV_form a0 b0 a1 b1 a2 b2
  rw [hxv] at hra
  obtain ⟨r1, hr1⟩ : ∃ r, r = ivE [(a0, b0), (a1, b1), (a2, b2)] := ⟨_, rfl⟩
  rw [← hr1] at hra h
  have hz2 : (r1 != 0) = true := by simpa using h
  have HRA := Lib.hid hra
  clear ht hra hxv hr1 h
  go_enter Tryz.func3, Tryz.ntmps3
  go_wp2_with fail
  refine (HRA.out _).mono ?_
  rintro e w1 ⟨rfl, hb⟩
  have HM1 := Lib.hid (show Hp w [(w.heap.size, 25, [.int .i64 a0, .int .i64 b0, .int .i64 a1, .int .i64 b1, .int .i64 a2, .int .i64 b2]), (w1.heap.size, 28, [.int .i64 xa, .int .i64 xb, .int .i64 xc, .int .i64 xd])] _ from (HM0.out.step hb).new 28 [.int .i64 xa, .int .i64 xb, .int .i64 xc, .int .i64 xd])
  clear hb HM0
  go_wp2_with fail
  refine (lknown_any _ (HT.out.below HM1.out.below)).mono ?_
  rintro e w2 ⟨rfl, hb⟩
  have HM2 := Lib.hid (show Hp w [(w.heap.size, 25, [.int .i64 a0, .int .i64 b0, .int .i64 a1, .int .i64 b1, .int .i64 a2, .int .i64 b2]), (w1.heap.size, 28, [.int .i64 xa, .int .i64 xb, .int .i64 xc, .int .i64 xd])] _ from (HM1.out.step hb))
  clear hb HM1
  go_wp2_with fail
  refine (lknown_any _ (HT.out.below HM2.out.below)).mono ?_
  rintro e w3 ⟨rfl, hb⟩
  have HM3 := Lib.hid (show Hp w [(w.heap.size, 25, [.int .i64 a0, .int .i64 b0, .int .i64 a1, .int .i64 b1, .int .i64 a2, .int .i64 b2]), (w1.heap.size, 28, [.int .i64 xa, .int .i64 xb, .int .i64 xc, .int .i64 xd])] _ from (HM2.out.step hb))
  clear hb HM2
  go_wp2
  go_ret
  exact ⟨rfl, HM3.out.below⟩
set_option maxRecDepth 100000 in
set_option maxHeartbeats 8000000 in
theorem lcents_ok (a0 b0 a1 b1 a2 b2 : Int) (w : World) (ht : Tab w) (h1 : ivE [(a0, b0), (a1, b1), (a2, b2)] = 0) :
    Calls Tryz.prog 3 #[szv a0 b0 a1 b1 a2 b2] w fun e w' => e = .returned (.bool true) ∧ Below w.heap.size w w' := by
  have HM0 := Lib.hid (show Hp w [(w.heap.size, 25, [.int .i64 a0, .int .i64 b0, .int .i64 a1, .int .i64 b1, .int .i64 a2, .int .i64 b2])] (w.alloc (.cells #[.int .i64 a0, .int .i64 b0, .int .i64 a1, .int .i64 b1, .int .i64 a2, .int .i64 b2] 25)) from (Hp.start w).new 25 [.int .i64 a0, .int .i64 b0, .int .i64 a1, .int .i64 b1, .int .i64 a2, .int .i64 b2])
  have HT := Lib.hid ht
  have hra := fun W => lread_any a0 b0 a1 b1 a2 b2 W
  obtain ⟨x0, x1, x2, D, hxv, hxp, _⟩ := rdV_form a0 b0 a1 b1 a2 b2
  rw [hxv, h1] at hra
  replace hxp := hxp h1
  obtain ⟨u0, u1, u2⟩ := ivE_rightC h1
  have hA : ∀ q ∈ [(a0, b0), (a1, b1), (a2, b2)], Right q.1 q.2 := by
    intro q hq
    simp only [List.mem_cons, List.not_mem_nil, or_false] at hq
    rcases hq with rfl | rfl | rfl
    · exact u0
    · exact u1
    · exact u2
  obtain ⟨hD, hl⟩ := prt_num hxp (right_mild hA)
  have bx0 := hl x0 (by simp)
  have bx1 := hl x1 (by simp)
  have bx2 := hl x2 (by simp)
  have hca := fun W hW => icents_any a0 b0 a1 b1 a2 b2 x0 x1 x2 D W hW (right_i64C u0).1 (right_i64C u0).2 (right_i64C u1).1 (right_i64C u1).2 (right_i64C u2).1 (right_i64C u2).2 h1 hxp
  have hcr := fun W hW => refcents_any x0 x1 x2 D W hW (by omega) (by omega) (by omega) (by omega)
  obtain ⟨cz, hcz⟩ : ∃ c, c = cenZ x0 x1 x2 D := ⟨_, rfl⟩
  rw [← hcz] at hca hcr
  have HRA := Lib.hid hra
  have HCA := Lib.hid hca
  have HCR := Lib.hid hcr
  clear ht h1 hra hca hcr hxv hxp u0 u1 u2 hA hD hl bx0 bx1 bx2 hcz
  go_enter Tryz.func3, Tryz.ntmps3
  go_wp2_with fail
  refine (HRA.out _).mono ?_
  rintro e w1 ⟨rfl, hb⟩
  have HM1 := Lib.hid (show Hp w [(w.heap.size, 25, [.int .i64 a0, .int .i64 b0, .int .i64 a1, .int .i64 b1, .int .i64 a2, .int .i64 b2]), (w1.heap.size, 28, [.int .i64 x0, .int .i64 x1, .int .i64 x2, .int .i64 D])] _ from (HM0.out.step hb).new 28 [.int .i64 x0, .int .i64 x1, .int .i64 x2, .int .i64 D])
  clear hb HM0
  go_wp2_with fail
  refine (lknown_any _ (HT.out.below HM1.out.below)).mono ?_
  rintro e w2 ⟨rfl, hb⟩
  have HM2 := Lib.hid (show Hp w [(w.heap.size, 25, [.int .i64 a0, .int .i64 b0, .int .i64 a1, .int .i64 b1, .int .i64 a2, .int .i64 b2]), (w1.heap.size, 28, [.int .i64 x0, .int .i64 x1, .int .i64 x2, .int .i64 D])] _ from (HM1.out.step hb))
  obtain ⟨k0_0, k0_1, k0_2, k0_3, k0_4, k0_5⟩ := six_of (HM2.out.at_ 0 rfl)
  clear hb HM1
  go_wp2_with fail
  refine (HCA.out _ (HT.out.below HM2.out.below)).mono ?_
  rintro e w3 ⟨rfl, hb⟩
  have HM3 := Lib.hid (show Hp w [(w.heap.size, 25, [.int .i64 a0, .int .i64 b0, .int .i64 a1, .int .i64 b1, .int .i64 a2, .int .i64 b2]), (w1.heap.size, 28, [.int .i64 x0, .int .i64 x1, .int .i64 x2, .int .i64 D])] _ from (HM2.out.step hb))
  obtain ⟨k1_0, k1_1, k1_2, k1_3⟩ := four_of (HM3.out.at_ 1 rfl)
  clear hb HM2 k0_0 k0_1 k0_2 k0_3 k0_4 k0_5
  go_wp2_with fail
  refine (HCR.out _ (HT.out.below HM3.out.below)).mono ?_
  rintro e w4 ⟨⟨is, rfl⟩, hb⟩
  have HM4 := Lib.hid (HM3.out.step hb)
  clear hb HM3 k1_0 k1_1 k1_2 k1_3
  cases is with
  | false =>
    go_wp2
    go_ret
    exact ⟨rfl, HM4.out.below⟩
  | true =>
    go_wp2
    go_ret
    exact ⟨rfl, HM4.out.below⟩
theorem lcents_any (a0 b0 a1 b1 a2 b2 : Int) (w : World) (ht : Tab w) :
    Calls Tryz.prog 3 #[szv a0 b0 a1 b1 a2 b2] w fun e w' => e = .returned (.bool true) ∧ Below w.heap.size w w' := by
  by_cases h : ivE [(a0, b0), (a1, b1), (a2, b2)] = 0
  · exact lcents_ok a0 b0 a1 b1 a2 b2 w ht h
  · exact lcents_err a0 b0 a1 b1 a2 b2 w ht h
end Go.Proofs.YtplonkeipdbchaaGreatDoor
