/- Package interval: Add, Sub and Scale. Conditions: parts are ints. Printed by genaddsub.py. -/
import Derived.Test.YtplonkeipdbchaaDoorIvEach
import Derived.Test.YtplonkeipdbchaaDoorIvLow
import Derived.Test.YtplonkeipdbchaaDoorIvSign
import Derived.Test.YtplonkeipdbchaaDoorFracOp
namespace Go.Proofs.YtplonkeipdbchaaDoor
open Go.RowKit

theorem low_i64 {n d M : Int} (hn : -M ≤ n ∧ n ≤ M) (hd : -M ≤ d ∧ d ≤ M) (hM : M ≤ 9223372036854775807) : I64 (lowN n d) ∧ I64 (lowD n d) := by
  have h1 : (lowN n d).natAbs ≤ n.natAbs := by unfold lowN; rw [Int.natAbs_tdiv]; exact Nat.div_le_self _ _
  have h2 : (lowD n d).natAbs ≤ d.natAbs := by unfold lowD; rw [Int.natAbs_tdiv]; exact Nat.div_le_self _ _
  exact ⟨⟨by omega, by omega⟩, by omega, by omega⟩
theorem right_bd {a b : Int} (h : Right a b) : (-1000000 ≤ a ∧ a ≤ 1000000) ∧ (-1000000 ≤ b ∧ b ≤ 1000000) := ⟨⟨h.2.2.1, h.2.2.2.1⟩, by have := h.1; omega, h.2.1⟩
theorem right_i64 {a b : Int} (h : Right a b) : I64 a ∧ I64 b := by
  obtain ⟨⟨h1, h2⟩, h3, h4⟩ := right_bd h
  exact ⟨⟨by omega, by omega⟩, by omega, by omega⟩
theorem ivE_right {a0 b0 a1 b1 a2 b2 : Int} (h : ivE [(a0, b0), (a1, b1), (a2, b2)] = 0) : Right a0 b0 ∧ Right a1 b1 ∧ Right a2 b2 := by
  have h1 : ∀ q ∈ [(a0, b0), (a1, b1), (a2, b2)], Right q.1 q.2 := by
    apply Decidable.byContradiction
    intro hc
    unfold ivE at h
    rw [if_neg hc] at h
    exact absurd h (by decide)
  exact ⟨h1 (a0, b0) (by simp), h1 (a1, b1) (by simp), h1 (a2, b2) (by simp)⟩
theorem ivR_form (n0 d0 n1 d1 n2 d2 : Int) : ∃ s0 s1 s2 s3 s4 s5 q, ivR n0 d0 n1 d1 n2 d2 = .tuple #[szv s0 s1 s2 s3 s4 s5, .int .i64 q] := by
  unfold ivR; split
  · exact ⟨_, _, _, _, _, _, _, rfl⟩
  · exact ⟨_, _, _, _, _, _, _, rfl⟩
theorem eaAdd {a b c d : Int} (hab : Right a b) (hcd : Right c d) : EaFn 40 a b c d (lowN (a * d + c * b) (b * d)) (lowD (a * d + c * b) (b * d)) ∧ I64 (lowN (a * d + c * b) (b * d)) ∧ I64 (lowD (a * d + c * b) (b * d)) := by
  have hd : 0 < b * d := Int.mul_pos hab.1 hcd.1
  have h := fun W => fAdd_any a b c d W hab hcd
  rw [fmake_low _ _ hd] at h
  obtain ⟨⟨x1, x2⟩, x3, x4⟩ := right_bd hab
  obtain ⟨⟨y1, y2⟩, y3, y4⟩ := right_bd hcd
  have m1 := mul_bd x1 x2 y3 y4
  have m2 := mul_bd y1 y2 x3 x4
  have m3 := mul_bd x3 x4 y3 y4
  have m4 := mul_bd x1 x2 y1 y2
  refine ⟨?_, low_i64 (M := 4000000000000) (by omega) (by omega) (by decide)⟩
  by_cases hR : Right (lowN (a * d + c * b) (b * d)) (lowD (a * d + c * b) (b * d))
  · rw [if_pos hR] at h
    exact .inl ⟨hR, h⟩
  · rw [if_neg hR] at h
    exact .inr ⟨hR, h⟩
theorem eaSub {a b c d : Int} (hab : Right a b) (hcd : Right c d) : EaFn 41 a b c d (lowN (a * d - c * b) (b * d)) (lowD (a * d - c * b) (b * d)) ∧ I64 (lowN (a * d - c * b) (b * d)) ∧ I64 (lowD (a * d - c * b) (b * d)) := by
  have hd : 0 < b * d := Int.mul_pos hab.1 hcd.1
  have h := fun W => fSub_any a b c d W hab hcd
  rw [fmake_low _ _ hd] at h
  obtain ⟨⟨x1, x2⟩, x3, x4⟩ := right_bd hab
  obtain ⟨⟨y1, y2⟩, y3, y4⟩ := right_bd hcd
  have m1 := mul_bd x1 x2 y3 y4
  have m2 := mul_bd y1 y2 x3 x4
  have m3 := mul_bd x3 x4 y3 y4
  have m4 := mul_bd x1 x2 y1 y2
  refine ⟨?_, low_i64 (M := 4000000000000) (by omega) (by omega) (by decide)⟩
  by_cases hR : Right (lowN (a * d - c * b) (b * d)) (lowD (a * d - c * b) (b * d))
  · rw [if_pos hR] at h
    exact .inl ⟨hR, h⟩
  · rw [if_neg hR] at h
    exact .inr ⟨hR, h⟩
theorem eaMul {a b c d : Int} (hab : Right a b) (hcd : Right c d) : EaFn 37 a b c d (lowN (a * c) (b * d)) (lowD (a * c) (b * d)) ∧ I64 (lowN (a * c) (b * d)) ∧ I64 (lowD (a * c) (b * d)) := by
  have hd : 0 < b * d := Int.mul_pos hab.1 hcd.1
  have h := fun W => fMul_any a b c d W hab hcd
  rw [fmake_low _ _ hd] at h
  obtain ⟨⟨x1, x2⟩, x3, x4⟩ := right_bd hab
  obtain ⟨⟨y1, y2⟩, y3, y4⟩ := right_bd hcd
  have m1 := mul_bd x1 x2 y3 y4
  have m2 := mul_bd y1 y2 x3 x4
  have m3 := mul_bd x3 x4 y3 y4
  have m4 := mul_bd x1 x2 y1 y2
  refine ⟨?_, low_i64 (M := 4000000000000) (by omega) (by omega) (by decide)⟩
  by_cases hR : Right (lowN (a * c) (b * d)) (lowD (a * c) (b * d))
  · rw [if_pos hR] at h
    exact .inl ⟨hR, h⟩
  · rw [if_neg hR] at h
    exact .inr ⟨hR, h⟩
set_option maxRecDepth 100000 in
set_option maxHeartbeats 4000000 in
theorem iAdd_err (a0 b0 a1 b1 a2 b2 c0 d0 c1 d1 c2 d2 : Int) (w : World) (hi : ∀ k ∈ [a0, b0, a1, b1, a2, b2, c0, d0, c1, d1, c2, d2], I64 k) (h : (if ivE [(a0, b0), (a1, b1), (a2, b2)] ≠ 0 then ivE [(a0, b0), (a1, b1), (a2, b2)] else ivE [(c0, d0), (c1, d1), (c2, d2)]) ≠ 0) :
    Calls Tryd.prog 21 #[szv a0 b0 a1 b1 a2 b2, szv c0 d0 c1 d1 c2 d2] w fun e w' => e = .returned (.tuple #[szv 0 0 0 0 0 0, .int .i64 (if ivE [(a0, b0), (a1, b1), (a2, b2)] ≠ 0 then ivE [(a0, b0), (a1, b1), (a2, b2)] else ivE [(c0, d0), (c1, d1), (c2, d2)])]) ∧ Below w.heap.size w w' := by
  have hb := fun W => iboth_any a0 b0 a1 b1 a2 b2 c0 d0 c1 d1 c2 d2 W (hi _ (by simp)) (hi _ (by simp)) (hi _ (by simp)) (hi _ (by simp)) (hi _ (by simp)) (hi _ (by simp)) (hi _ (by simp)) (hi _ (by simp)) (hi _ (by simp)) (hi _ (by simp)) (hi _ (by simp)) (hi _ (by simp))
  obtain ⟨r, hr⟩ : ∃ r, r = (if ivE [(a0, b0), (a1, b1), (a2, b2)] ≠ 0 then ivE [(a0, b0), (a1, b1), (a2, b2)] else ivE [(c0, d0), (c1, d1), (c2, d2)]) := ⟨_, rfl⟩
  rw [← hr] at hb h ⊢
  have HB := Lib.hid hb
  have hz2 : (r != 0) = true := by simpa using h
  clear hb hr hi h
  have hM0 : Hp w [(w.heap.size, 28, [.int .i64 a0, .int .i64 b0, .int .i64 a1, .int .i64 b1, .int .i64 a2, .int .i64 b2]), (w.heap.size + 1, 28, [.int .i64 c0, .int .i64 d0, .int .i64 c1, .int .i64 d1, .int .i64 c2, .int .i64 d2]), (w.heap.size + 1 + 1, 28, [.int .i64 0, .int .i64 0, .int .i64 0, .int .i64 0, .int .i64 0, .int .i64 0])] (((w.alloc (.cells #[.int .i64 a0, .int .i64 b0, .int .i64 a1, .int .i64 b1, .int .i64 a2, .int .i64 b2] 28)).alloc (.cells #[.int .i64 c0, .int .i64 d0, .int .i64 c1, .int .i64 d1, .int .i64 c2, .int .i64 d2] 28)).alloc (.cells #[.int .i64 0, .int .i64 0, .int .i64 0, .int .i64 0, .int .i64 0, .int .i64 0] 28)) := by
    have h := (((Hp.start w).new 28 [.int .i64 a0, .int .i64 b0, .int .i64 a1, .int .i64 b1, .int .i64 a2, .int .i64 b2]).new 28 [.int .i64 c0, .int .i64 d0, .int .i64 c1, .int .i64 d1, .int .i64 c2, .int .i64 d2]).new 28 [.int .i64 0, .int .i64 0, .int .i64 0, .int .i64 0, .int .i64 0, .int .i64 0]
    simp only [World.size_alloc] at h
    exact h
  have HM0 := Lib.hid hM0
  clear hM0
  go_enter Tryd.func21, Tryd.ntmps21
  go_wp2_with fail
  refine (HB.out _).mono ?_
  rintro e W1 ⟨rfl, hb⟩
  have HMZ := Lib.hid (HM0.out.step hb)
  clear hb HM0
  obtain ⟨e0, e1, e2, e3, e4, e5⟩ := six_of (HMZ.out.at_ 2 rfl)
  obtain ⟨f0, f1, f2, f3, f4, f5⟩ := six_free (HMZ.out.at_ 2 rfl)
  go_wp2
  obtain ⟨WZ, hWZ⟩ : ∃ WZ, WZ = (((((W1.setCell ⟨w.heap.size + 1 + 1, 0, none⟩ (.int .i64 0)).setCell ⟨w.heap.size + 1 + 1, 1, none⟩ (.int .i64 0)).setCell ⟨w.heap.size + 1 + 1, 2, none⟩ (.int .i64 0)).setCell ⟨w.heap.size + 1 + 1, 3, none⟩ (.int .i64 0)).setCell ⟨w.heap.size + 1 + 1, 4, none⟩ (.int .i64 0)).setCell ⟨w.heap.size + 1 + 1, 5, none⟩ (.int .i64 0) := ⟨_, rfl⟩
  have hz := HMZ.out.put6 2 rfl (.int .i64 0) (.int .i64 0) (.int .i64 0) (.int .i64 0) (.int .i64 0) (.int .i64 0)
  rw [← hWZ] at hz ⊢
  obtain ⟨g0, g1, g2, g3, g4, g5⟩ := six_of (hz.at_ 2 rfl)
  exact bodyPost_ret (v := .tuple #[szv 0 0 0 0 0 0, .int .i64 r]) (by simp [g0, g1, g2, g3, g4, g5, results, Tryd.results21, go_sem]) rfl ⟨rfl, hz.below⟩
set_option maxRecDepth 100000 in
set_option maxHeartbeats 4000000 in
theorem iAdd_any (a0 b0 a1 b1 a2 b2 c0 d0 c1 d1 c2 d2 : Int) (w : World) (h1 : ivE [(a0, b0), (a1, b1), (a2, b2)] = 0) (h2 : ivE [(c0, d0), (c1, d1), (c2, d2)] = 0) :
    Calls Tryd.prog 21 #[szv a0 b0 a1 b1 a2 b2, szv c0 d0 c1 d1 c2 d2] w fun e w' => e = .returned (ivR (lowN (a0 * d0 + c0 * b0) (b0 * d0)) (lowD (a0 * d0 + c0 * b0) (b0 * d0)) (lowN (a1 * d1 + c1 * b1) (b1 * d1)) (lowD (a1 * d1 + c1 * b1) (b1 * d1)) (lowN (a2 * d2 + c2 * b2) (b2 * d2)) (lowD (a2 * d2 + c2 * b2) (b2 * d2))) ∧ Below w.heap.size w w' := by
  obtain ⟨r0, r1, r2⟩ := ivE_right h1
  obtain ⟨s0, s1, s2⟩ := ivE_right h2
  have hb := fun W => iboth_any a0 b0 a1 b1 a2 b2 c0 d0 c1 d1 c2 d2 W (right_i64 r0).1 (right_i64 r0).2 (right_i64 r1).1 (right_i64 r1).2 (right_i64 r2).1 (right_i64 r2).2 (right_i64 s0).1 (right_i64 s0).2 (right_i64 s1).1 (right_i64 s1).2 (right_i64 s2).1 (right_i64 s2).2
  rw [if_neg (fun k => k h1), h2] at hb
  obtain ⟨x0, x1, x2⟩ := eaAdd r0 s0
  obtain ⟨y0, y1, y2⟩ := eaAdd r1 s1
  obtain ⟨z0, z1, z2⟩ := eaAdd r2 s2
  have he := fun W => ieachAdd_any a0 b0 a1 b1 a2 b2 c0 d0 c1 d1 c2 d2 _ _ _ _ _ _ W x0 y0 z0 x1 x2 y1 y2 z1 z2
  obtain ⟨t0, t1, t2, t3, t4, t5, q, hrr⟩ := ivR_form (lowN (a0 * d0 + c0 * b0) (b0 * d0)) (lowD (a0 * d0 + c0 * b0) (b0 * d0)) (lowN (a1 * d1 + c1 * b1) (b1 * d1)) (lowD (a1 * d1 + c1 * b1) (b1 * d1)) (lowN (a2 * d2 + c2 * b2) (b2 * d2)) (lowD (a2 * d2 + c2 * b2) (b2 * d2))
  rw [hrr] at he ⊢
  have HB := Lib.hid hb
  have HE := Lib.hid he
  clear hb he hrr x0 x1 x2 y0 y1 y2 z0 z1 z2 r0 r1 r2 s0 s1 s2 h1 h2
  have hM0 : Hp w [(w.heap.size, 28, [.int .i64 a0, .int .i64 b0, .int .i64 a1, .int .i64 b1, .int .i64 a2, .int .i64 b2]), (w.heap.size + 1, 28, [.int .i64 c0, .int .i64 d0, .int .i64 c1, .int .i64 d1, .int .i64 c2, .int .i64 d2]), (w.heap.size + 1 + 1, 28, [.int .i64 0, .int .i64 0, .int .i64 0, .int .i64 0, .int .i64 0, .int .i64 0])] (((w.alloc (.cells #[.int .i64 a0, .int .i64 b0, .int .i64 a1, .int .i64 b1, .int .i64 a2, .int .i64 b2] 28)).alloc (.cells #[.int .i64 c0, .int .i64 d0, .int .i64 c1, .int .i64 d1, .int .i64 c2, .int .i64 d2] 28)).alloc (.cells #[.int .i64 0, .int .i64 0, .int .i64 0, .int .i64 0, .int .i64 0, .int .i64 0] 28)) := by
    have h := (((Hp.start w).new 28 [.int .i64 a0, .int .i64 b0, .int .i64 a1, .int .i64 b1, .int .i64 a2, .int .i64 b2]).new 28 [.int .i64 c0, .int .i64 d0, .int .i64 c1, .int .i64 d1, .int .i64 c2, .int .i64 d2]).new 28 [.int .i64 0, .int .i64 0, .int .i64 0, .int .i64 0, .int .i64 0, .int .i64 0]
    simp only [World.size_alloc] at h
    exact h
  have HM0 := Lib.hid hM0
  clear hM0
  go_enter Tryd.func21, Tryd.ntmps21
  go_wp2_with fail
  refine (HB.out _).mono ?_
  rintro e W0 ⟨rfl, hb⟩
  have HM1 := Lib.hid (HM0.out.step hb)
  clear hb HM0
  obtain ⟨e0, e1, e2, e3, e4, e5⟩ := six_of (HM1.out.at_ 0 rfl)
  obtain ⟨f0, f1, f2, f3, f4, f5⟩ := six_of (HM1.out.at_ 1 rfl)
  go_wp2_with fail
  refine (HE.out _).mono ?_
  rintro e W1 ⟨rfl, hb⟩
  have HMZ := Lib.hid (HM1.out.step hb)
  clear hb HM1 e0 e1 e2 e3 e4 e5 f0 f1 f2 f3 f4 f5
  obtain ⟨e0, e1, e2, e3, e4, e5⟩ := six_of (HMZ.out.at_ 2 rfl)
  obtain ⟨f0, f1, f2, f3, f4, f5⟩ := six_free (HMZ.out.at_ 2 rfl)
  go_wp2
  obtain ⟨WZ, hWZ⟩ : ∃ WZ, WZ = (((((W1.setCell ⟨w.heap.size + 1 + 1, 0, none⟩ (.int .i64 t0)).setCell ⟨w.heap.size + 1 + 1, 1, none⟩ (.int .i64 t1)).setCell ⟨w.heap.size + 1 + 1, 2, none⟩ (.int .i64 t2)).setCell ⟨w.heap.size + 1 + 1, 3, none⟩ (.int .i64 t3)).setCell ⟨w.heap.size + 1 + 1, 4, none⟩ (.int .i64 t4)).setCell ⟨w.heap.size + 1 + 1, 5, none⟩ (.int .i64 t5) := ⟨_, rfl⟩
  have hz := HMZ.out.put6 2 rfl (.int .i64 t0) (.int .i64 t1) (.int .i64 t2) (.int .i64 t3) (.int .i64 t4) (.int .i64 t5)
  rw [← hWZ] at hz ⊢
  obtain ⟨g0, g1, g2, g3, g4, g5⟩ := six_of (hz.at_ 2 rfl)
  exact bodyPost_ret (v := .tuple #[szv t0 t1 t2 t3 t4 t5, .int .i64 q]) (by simp [g0, g1, g2, g3, g4, g5, results, Tryd.results21, go_sem]) rfl ⟨rfl, hz.below⟩
set_option maxRecDepth 100000 in
set_option maxHeartbeats 4000000 in
theorem iSub_err (a0 b0 a1 b1 a2 b2 c0 d0 c1 d1 c2 d2 : Int) (w : World) (hi : ∀ k ∈ [a0, b0, a1, b1, a2, b2, c0, d0, c1, d1, c2, d2], I64 k) (h : (if ivE [(a0, b0), (a1, b1), (a2, b2)] ≠ 0 then ivE [(a0, b0), (a1, b1), (a2, b2)] else ivE [(c0, d0), (c1, d1), (c2, d2)]) ≠ 0) :
    Calls Tryd.prog 22 #[szv a0 b0 a1 b1 a2 b2, szv c0 d0 c1 d1 c2 d2] w fun e w' => e = .returned (.tuple #[szv 0 0 0 0 0 0, .int .i64 (if ivE [(a0, b0), (a1, b1), (a2, b2)] ≠ 0 then ivE [(a0, b0), (a1, b1), (a2, b2)] else ivE [(c0, d0), (c1, d1), (c2, d2)])]) ∧ Below w.heap.size w w' := by
  have hb := fun W => iboth_any a0 b0 a1 b1 a2 b2 c0 d0 c1 d1 c2 d2 W (hi _ (by simp)) (hi _ (by simp)) (hi _ (by simp)) (hi _ (by simp)) (hi _ (by simp)) (hi _ (by simp)) (hi _ (by simp)) (hi _ (by simp)) (hi _ (by simp)) (hi _ (by simp)) (hi _ (by simp)) (hi _ (by simp))
  obtain ⟨r, hr⟩ : ∃ r, r = (if ivE [(a0, b0), (a1, b1), (a2, b2)] ≠ 0 then ivE [(a0, b0), (a1, b1), (a2, b2)] else ivE [(c0, d0), (c1, d1), (c2, d2)]) := ⟨_, rfl⟩
  rw [← hr] at hb h ⊢
  have HB := Lib.hid hb
  have hz2 : (r != 0) = true := by simpa using h
  clear hb hr hi h
  have hM0 : Hp w [(w.heap.size, 28, [.int .i64 a0, .int .i64 b0, .int .i64 a1, .int .i64 b1, .int .i64 a2, .int .i64 b2]), (w.heap.size + 1, 28, [.int .i64 c0, .int .i64 d0, .int .i64 c1, .int .i64 d1, .int .i64 c2, .int .i64 d2]), (w.heap.size + 1 + 1, 28, [.int .i64 0, .int .i64 0, .int .i64 0, .int .i64 0, .int .i64 0, .int .i64 0])] (((w.alloc (.cells #[.int .i64 a0, .int .i64 b0, .int .i64 a1, .int .i64 b1, .int .i64 a2, .int .i64 b2] 28)).alloc (.cells #[.int .i64 c0, .int .i64 d0, .int .i64 c1, .int .i64 d1, .int .i64 c2, .int .i64 d2] 28)).alloc (.cells #[.int .i64 0, .int .i64 0, .int .i64 0, .int .i64 0, .int .i64 0, .int .i64 0] 28)) := by
    have h := (((Hp.start w).new 28 [.int .i64 a0, .int .i64 b0, .int .i64 a1, .int .i64 b1, .int .i64 a2, .int .i64 b2]).new 28 [.int .i64 c0, .int .i64 d0, .int .i64 c1, .int .i64 d1, .int .i64 c2, .int .i64 d2]).new 28 [.int .i64 0, .int .i64 0, .int .i64 0, .int .i64 0, .int .i64 0, .int .i64 0]
    simp only [World.size_alloc] at h
    exact h
  have HM0 := Lib.hid hM0
  clear hM0
  go_enter Tryd.func22, Tryd.ntmps22
  go_wp2_with fail
  refine (HB.out _).mono ?_
  rintro e W1 ⟨rfl, hb⟩
  have HMZ := Lib.hid (HM0.out.step hb)
  clear hb HM0
  obtain ⟨e0, e1, e2, e3, e4, e5⟩ := six_of (HMZ.out.at_ 2 rfl)
  obtain ⟨f0, f1, f2, f3, f4, f5⟩ := six_free (HMZ.out.at_ 2 rfl)
  go_wp2
  obtain ⟨WZ, hWZ⟩ : ∃ WZ, WZ = (((((W1.setCell ⟨w.heap.size + 1 + 1, 0, none⟩ (.int .i64 0)).setCell ⟨w.heap.size + 1 + 1, 1, none⟩ (.int .i64 0)).setCell ⟨w.heap.size + 1 + 1, 2, none⟩ (.int .i64 0)).setCell ⟨w.heap.size + 1 + 1, 3, none⟩ (.int .i64 0)).setCell ⟨w.heap.size + 1 + 1, 4, none⟩ (.int .i64 0)).setCell ⟨w.heap.size + 1 + 1, 5, none⟩ (.int .i64 0) := ⟨_, rfl⟩
  have hz := HMZ.out.put6 2 rfl (.int .i64 0) (.int .i64 0) (.int .i64 0) (.int .i64 0) (.int .i64 0) (.int .i64 0)
  rw [← hWZ] at hz ⊢
  obtain ⟨g0, g1, g2, g3, g4, g5⟩ := six_of (hz.at_ 2 rfl)
  exact bodyPost_ret (v := .tuple #[szv 0 0 0 0 0 0, .int .i64 r]) (by simp [g0, g1, g2, g3, g4, g5, results, Tryd.results22, go_sem]) rfl ⟨rfl, hz.below⟩
set_option maxRecDepth 100000 in
set_option maxHeartbeats 4000000 in
theorem iSub_any (a0 b0 a1 b1 a2 b2 c0 d0 c1 d1 c2 d2 : Int) (w : World) (h1 : ivE [(a0, b0), (a1, b1), (a2, b2)] = 0) (h2 : ivE [(c0, d0), (c1, d1), (c2, d2)] = 0) :
    Calls Tryd.prog 22 #[szv a0 b0 a1 b1 a2 b2, szv c0 d0 c1 d1 c2 d2] w fun e w' => e = .returned (ivR (lowN (a0 * d0 - c0 * b0) (b0 * d0)) (lowD (a0 * d0 - c0 * b0) (b0 * d0)) (lowN (a1 * d1 - c1 * b1) (b1 * d1)) (lowD (a1 * d1 - c1 * b1) (b1 * d1)) (lowN (a2 * d2 - c2 * b2) (b2 * d2)) (lowD (a2 * d2 - c2 * b2) (b2 * d2))) ∧ Below w.heap.size w w' := by
  obtain ⟨r0, r1, r2⟩ := ivE_right h1
  obtain ⟨s0, s1, s2⟩ := ivE_right h2
  have hb := fun W => iboth_any a0 b0 a1 b1 a2 b2 c0 d0 c1 d1 c2 d2 W (right_i64 r0).1 (right_i64 r0).2 (right_i64 r1).1 (right_i64 r1).2 (right_i64 r2).1 (right_i64 r2).2 (right_i64 s0).1 (right_i64 s0).2 (right_i64 s1).1 (right_i64 s1).2 (right_i64 s2).1 (right_i64 s2).2
  rw [if_neg (fun k => k h1), h2] at hb
  obtain ⟨x0, x1, x2⟩ := eaSub r0 s0
  obtain ⟨y0, y1, y2⟩ := eaSub r1 s1
  obtain ⟨z0, z1, z2⟩ := eaSub r2 s2
  have he := fun W => ieachSub_any a0 b0 a1 b1 a2 b2 c0 d0 c1 d1 c2 d2 _ _ _ _ _ _ W x0 y0 z0 x1 x2 y1 y2 z1 z2
  obtain ⟨t0, t1, t2, t3, t4, t5, q, hrr⟩ := ivR_form (lowN (a0 * d0 - c0 * b0) (b0 * d0)) (lowD (a0 * d0 - c0 * b0) (b0 * d0)) (lowN (a1 * d1 - c1 * b1) (b1 * d1)) (lowD (a1 * d1 - c1 * b1) (b1 * d1)) (lowN (a2 * d2 - c2 * b2) (b2 * d2)) (lowD (a2 * d2 - c2 * b2) (b2 * d2))
  rw [hrr] at he ⊢
  have HB := Lib.hid hb
  have HE := Lib.hid he
  clear hb he hrr x0 x1 x2 y0 y1 y2 z0 z1 z2 r0 r1 r2 s0 s1 s2 h1 h2
  have hM0 : Hp w [(w.heap.size, 28, [.int .i64 a0, .int .i64 b0, .int .i64 a1, .int .i64 b1, .int .i64 a2, .int .i64 b2]), (w.heap.size + 1, 28, [.int .i64 c0, .int .i64 d0, .int .i64 c1, .int .i64 d1, .int .i64 c2, .int .i64 d2]), (w.heap.size + 1 + 1, 28, [.int .i64 0, .int .i64 0, .int .i64 0, .int .i64 0, .int .i64 0, .int .i64 0])] (((w.alloc (.cells #[.int .i64 a0, .int .i64 b0, .int .i64 a1, .int .i64 b1, .int .i64 a2, .int .i64 b2] 28)).alloc (.cells #[.int .i64 c0, .int .i64 d0, .int .i64 c1, .int .i64 d1, .int .i64 c2, .int .i64 d2] 28)).alloc (.cells #[.int .i64 0, .int .i64 0, .int .i64 0, .int .i64 0, .int .i64 0, .int .i64 0] 28)) := by
    have h := (((Hp.start w).new 28 [.int .i64 a0, .int .i64 b0, .int .i64 a1, .int .i64 b1, .int .i64 a2, .int .i64 b2]).new 28 [.int .i64 c0, .int .i64 d0, .int .i64 c1, .int .i64 d1, .int .i64 c2, .int .i64 d2]).new 28 [.int .i64 0, .int .i64 0, .int .i64 0, .int .i64 0, .int .i64 0, .int .i64 0]
    simp only [World.size_alloc] at h
    exact h
  have HM0 := Lib.hid hM0
  clear hM0
  go_enter Tryd.func22, Tryd.ntmps22
  go_wp2_with fail
  refine (HB.out _).mono ?_
  rintro e W0 ⟨rfl, hb⟩
  have HM1 := Lib.hid (HM0.out.step hb)
  clear hb HM0
  obtain ⟨e0, e1, e2, e3, e4, e5⟩ := six_of (HM1.out.at_ 0 rfl)
  obtain ⟨f0, f1, f2, f3, f4, f5⟩ := six_of (HM1.out.at_ 1 rfl)
  go_wp2_with fail
  refine (HE.out _).mono ?_
  rintro e W1 ⟨rfl, hb⟩
  have HMZ := Lib.hid (HM1.out.step hb)
  clear hb HM1 e0 e1 e2 e3 e4 e5 f0 f1 f2 f3 f4 f5
  obtain ⟨e0, e1, e2, e3, e4, e5⟩ := six_of (HMZ.out.at_ 2 rfl)
  obtain ⟨f0, f1, f2, f3, f4, f5⟩ := six_free (HMZ.out.at_ 2 rfl)
  go_wp2
  obtain ⟨WZ, hWZ⟩ : ∃ WZ, WZ = (((((W1.setCell ⟨w.heap.size + 1 + 1, 0, none⟩ (.int .i64 t0)).setCell ⟨w.heap.size + 1 + 1, 1, none⟩ (.int .i64 t1)).setCell ⟨w.heap.size + 1 + 1, 2, none⟩ (.int .i64 t2)).setCell ⟨w.heap.size + 1 + 1, 3, none⟩ (.int .i64 t3)).setCell ⟨w.heap.size + 1 + 1, 4, none⟩ (.int .i64 t4)).setCell ⟨w.heap.size + 1 + 1, 5, none⟩ (.int .i64 t5) := ⟨_, rfl⟩
  have hz := HMZ.out.put6 2 rfl (.int .i64 t0) (.int .i64 t1) (.int .i64 t2) (.int .i64 t3) (.int .i64 t4) (.int .i64 t5)
  rw [← hWZ] at hz ⊢
  obtain ⟨g0, g1, g2, g3, g4, g5⟩ := six_of (hz.at_ 2 rfl)
  exact bodyPost_ret (v := .tuple #[szv t0 t1 t2 t3 t4 t5, .int .i64 q]) (by simp [g0, g1, g2, g3, g4, g5, results, Tryd.results22, go_sem]) rfl ⟨rfl, hz.below⟩
set_option maxRecDepth 100000 in
set_option maxHeartbeats 4000000 in
theorem iScale_err (a0 b0 a1 b1 a2 b2 kn kd : Int) (w : World) (hi : ∀ k ∈ [a0, b0, a1, b1, a2, b2], I64 k) (h : ivE [(a0, b0), (a1, b1), (a2, b2)] ≠ 0) :
    Calls Tryd.prog 18 #[szv a0 b0 a1 b1 a2 b2, .agg #[.int .i64 kn, .int .i64 kd]] w fun e w' => e = .returned (.tuple #[szv 0 0 0 0 0 0, .int .i64 (ivE [(a0, b0), (a1, b1), (a2, b2)])]) ∧ Below w.heap.size w w' := by
  have hb := fun W => icheck_any a0 b0 a1 b1 a2 b2 W (hi _ (by simp)) (hi _ (by simp)) (hi _ (by simp)) (hi _ (by simp)) (hi _ (by simp)) (hi _ (by simp))
  obtain ⟨r, hr⟩ : ∃ r, r = ivE [(a0, b0), (a1, b1), (a2, b2)] := ⟨_, rfl⟩
  rw [← hr] at hb h ⊢
  have HB := Lib.hid hb
  have hz2 : (r != 0) = true := by simpa using h
  clear hb hr hi h
  have hM0 : Hp w [(w.heap.size, 28, [.int .i64 a0, .int .i64 b0, .int .i64 a1, .int .i64 b1, .int .i64 a2, .int .i64 b2]), (w.heap.size + 1, 26, [.int .i64 kn, .int .i64 kd]), (w.heap.size + 1 + 1, 28, [.int .i64 0, .int .i64 0, .int .i64 0, .int .i64 0, .int .i64 0, .int .i64 0])] (((w.alloc (.cells #[.int .i64 a0, .int .i64 b0, .int .i64 a1, .int .i64 b1, .int .i64 a2, .int .i64 b2] 28)).alloc (.cells #[.int .i64 kn, .int .i64 kd] 26)).alloc (.cells #[.int .i64 0, .int .i64 0, .int .i64 0, .int .i64 0, .int .i64 0, .int .i64 0] 28)) := by
    have h := (((Hp.start w).new 28 [.int .i64 a0, .int .i64 b0, .int .i64 a1, .int .i64 b1, .int .i64 a2, .int .i64 b2]).new 26 [.int .i64 kn, .int .i64 kd]).new 28 [.int .i64 0, .int .i64 0, .int .i64 0, .int .i64 0, .int .i64 0, .int .i64 0]
    simp only [World.size_alloc] at h
    exact h
  have HM0 := Lib.hid hM0
  clear hM0
  go_enter Tryd.func18, Tryd.ntmps18
  go_wp2_with fail
  refine (HB.out _).mono ?_
  rintro e W1 ⟨rfl, hb⟩
  have HMZ := Lib.hid (HM0.out.step hb)
  clear hb HM0
  obtain ⟨e0, e1, e2, e3, e4, e5⟩ := six_of (HMZ.out.at_ 2 rfl)
  obtain ⟨f0, f1, f2, f3, f4, f5⟩ := six_free (HMZ.out.at_ 2 rfl)
  go_wp2
  obtain ⟨WZ, hWZ⟩ : ∃ WZ, WZ = (((((W1.setCell ⟨w.heap.size + 1 + 1, 0, none⟩ (.int .i64 0)).setCell ⟨w.heap.size + 1 + 1, 1, none⟩ (.int .i64 0)).setCell ⟨w.heap.size + 1 + 1, 2, none⟩ (.int .i64 0)).setCell ⟨w.heap.size + 1 + 1, 3, none⟩ (.int .i64 0)).setCell ⟨w.heap.size + 1 + 1, 4, none⟩ (.int .i64 0)).setCell ⟨w.heap.size + 1 + 1, 5, none⟩ (.int .i64 0) := ⟨_, rfl⟩
  have hz := HMZ.out.put6 2 rfl (.int .i64 0) (.int .i64 0) (.int .i64 0) (.int .i64 0) (.int .i64 0) (.int .i64 0)
  rw [← hWZ] at hz ⊢
  obtain ⟨g0, g1, g2, g3, g4, g5⟩ := six_of (hz.at_ 2 rfl)
  exact bodyPost_ret (v := .tuple #[szv 0 0 0 0 0 0, .int .i64 r]) (by simp [g0, g1, g2, g3, g4, g5, results, Tryd.results18, go_sem]) rfl ⟨rfl, hz.below⟩
set_option maxRecDepth 100000 in
set_option maxHeartbeats 4000000 in
theorem iScale_num (a0 b0 a1 b1 a2 b2 kn kd : Int) (w : World) (h : ivE [(a0, b0), (a1, b1), (a2, b2)] = 0) (i1 : I64 kn) (i2 : I64 kd) (hk : ¬ Right kn kd) :
    Calls Tryd.prog 18 #[szv a0 b0 a1 b1 a2 b2, .agg #[.int .i64 kn, .int .i64 kd]] w fun e w' => e = .returned (.tuple #[szv 0 0 0 0 0 0, .int .i64 2]) ∧ Below w.heap.size w w' := by
  obtain ⟨r0, r1, r2⟩ := ivE_right h
  have hb := fun W => icheck_any a0 b0 a1 b1 a2 b2 W (right_i64 r0).1 (right_i64 r0).2 (right_i64 r1).1 (right_i64 r1).2 (right_i64 r2).1 (right_i64 r2).2
  rw [h] at hb
  have hf := fun W => fcheck_any kn kd W i1.1 i1.2 i2.1 i2.2
  rw [fErr_no hk] at hf
  have HB := Lib.hid hb
  have HF := Lib.hid hf
  clear hb hf r0 r1 r2 h i1 i2 hk
  have hM0 : Hp w [(w.heap.size, 28, [.int .i64 a0, .int .i64 b0, .int .i64 a1, .int .i64 b1, .int .i64 a2, .int .i64 b2]), (w.heap.size + 1, 26, [.int .i64 kn, .int .i64 kd]), (w.heap.size + 1 + 1, 28, [.int .i64 0, .int .i64 0, .int .i64 0, .int .i64 0, .int .i64 0, .int .i64 0])] (((w.alloc (.cells #[.int .i64 a0, .int .i64 b0, .int .i64 a1, .int .i64 b1, .int .i64 a2, .int .i64 b2] 28)).alloc (.cells #[.int .i64 kn, .int .i64 kd] 26)).alloc (.cells #[.int .i64 0, .int .i64 0, .int .i64 0, .int .i64 0, .int .i64 0, .int .i64 0] 28)) := by
    have h := (((Hp.start w).new 28 [.int .i64 a0, .int .i64 b0, .int .i64 a1, .int .i64 b1, .int .i64 a2, .int .i64 b2]).new 26 [.int .i64 kn, .int .i64 kd]).new 28 [.int .i64 0, .int .i64 0, .int .i64 0, .int .i64 0, .int .i64 0, .int .i64 0]
    simp only [World.size_alloc] at h
    exact h
  have HM0 := Lib.hid hM0
  clear hM0
  go_enter Tryd.func18, Tryd.ntmps18
  go_wp2_with fail
  refine (HB.out _).mono ?_
  rintro e W0 ⟨rfl, hb⟩
  have HM1 := Lib.hid (HM0.out.step hb)
  clear hb HM0
  obtain ⟨e0, e1⟩ := (⟨(HM1.out.at_ 1 rfl).cell 0, (HM1.out.at_ 1 rfl).cell 1⟩ : _ ∧ _)
  go_wp2_with fail
  refine (HF.out _).mono ?_
  rintro e W1 ⟨rfl, hb⟩
  have HM2 := Lib.hid (HM1.out.step hb)
  clear hb HM1 e0 e1
  have HMZ := Lib.hid HM2.out
  obtain ⟨e0, e1, e2, e3, e4, e5⟩ := six_of (HMZ.out.at_ 2 rfl)
  obtain ⟨f0, f1, f2, f3, f4, f5⟩ := six_free (HMZ.out.at_ 2 rfl)
  go_wp2
  obtain ⟨WZ, hWZ⟩ : ∃ WZ, WZ = (((((W1.setCell ⟨w.heap.size + 1 + 1, 0, none⟩ (.int .i64 0)).setCell ⟨w.heap.size + 1 + 1, 1, none⟩ (.int .i64 0)).setCell ⟨w.heap.size + 1 + 1, 2, none⟩ (.int .i64 0)).setCell ⟨w.heap.size + 1 + 1, 3, none⟩ (.int .i64 0)).setCell ⟨w.heap.size + 1 + 1, 4, none⟩ (.int .i64 0)).setCell ⟨w.heap.size + 1 + 1, 5, none⟩ (.int .i64 0) := ⟨_, rfl⟩
  have hz := HMZ.out.put6 2 rfl (.int .i64 0) (.int .i64 0) (.int .i64 0) (.int .i64 0) (.int .i64 0) (.int .i64 0)
  rw [← hWZ] at hz ⊢
  obtain ⟨g0, g1, g2, g3, g4, g5⟩ := six_of (hz.at_ 2 rfl)
  exact bodyPost_ret (v := .tuple #[szv 0 0 0 0 0 0, .int .i64 2]) (by simp [g0, g1, g2, g3, g4, g5, results, Tryd.results18, go_sem]) rfl ⟨rfl, hz.below⟩
set_option maxRecDepth 100000 in
set_option maxHeartbeats 4000000 in
theorem iScale_any (a0 b0 a1 b1 a2 b2 kn kd : Int) (w : World) (h : ivE [(a0, b0), (a1, b1), (a2, b2)] = 0) (hk : Right kn kd) :
    Calls Tryd.prog 18 #[szv a0 b0 a1 b1 a2 b2, .agg #[.int .i64 kn, .int .i64 kd]] w fun e w' => e = .returned (ivR (lowN (a0 * kn) (b0 * kd)) (lowD (a0 * kn) (b0 * kd)) (lowN (a1 * kn) (b1 * kd)) (lowD (a1 * kn) (b1 * kd)) (lowN (a2 * kn) (b2 * kd)) (lowD (a2 * kn) (b2 * kd))) ∧ Below w.heap.size w w' := by
  obtain ⟨r0, r1, r2⟩ := ivE_right h
  have hb := fun W => icheck_any a0 b0 a1 b1 a2 b2 W (right_i64 r0).1 (right_i64 r0).2 (right_i64 r1).1 (right_i64 r1).2 (right_i64 r2).1 (right_i64 r2).2
  rw [h] at hb
  have hf := fun W => fcheck_any kn kd W (right_i64 hk).1.1 (right_i64 hk).1.2 (right_i64 hk).2.1 (right_i64 hk).2.2
  rw [fErr_ok hk] at hf
  obtain ⟨x0, x1, x2⟩ := eaMul r0 hk
  obtain ⟨y0, y1, y2⟩ := eaMul r1 hk
  obtain ⟨z0, z1, z2⟩ := eaMul r2 hk
  have he := fun W => ieachMul_any a0 b0 a1 b1 a2 b2 kn kd kn kd kn kd _ _ _ _ _ _ W x0 y0 z0 x1 x2 y1 y2 z1 z2
  obtain ⟨t0, t1, t2, t3, t4, t5, q, hrr⟩ := ivR_form (lowN (a0 * kn) (b0 * kd)) (lowD (a0 * kn) (b0 * kd)) (lowN (a1 * kn) (b1 * kd)) (lowD (a1 * kn) (b1 * kd)) (lowN (a2 * kn) (b2 * kd)) (lowD (a2 * kn) (b2 * kd))
  rw [hrr] at he ⊢
  have HB := Lib.hid hb
  have HF := Lib.hid hf
  have HE := Lib.hid he
  clear hb hf he hrr x0 x1 x2 y0 y1 y2 z0 z1 z2 r0 r1 r2 h hk
  have hM0 : Hp w [(w.heap.size, 28, [.int .i64 a0, .int .i64 b0, .int .i64 a1, .int .i64 b1, .int .i64 a2, .int .i64 b2]), (w.heap.size + 1, 26, [.int .i64 kn, .int .i64 kd]), (w.heap.size + 1 + 1, 28, [.int .i64 0, .int .i64 0, .int .i64 0, .int .i64 0, .int .i64 0, .int .i64 0])] (((w.alloc (.cells #[.int .i64 a0, .int .i64 b0, .int .i64 a1, .int .i64 b1, .int .i64 a2, .int .i64 b2] 28)).alloc (.cells #[.int .i64 kn, .int .i64 kd] 26)).alloc (.cells #[.int .i64 0, .int .i64 0, .int .i64 0, .int .i64 0, .int .i64 0, .int .i64 0] 28)) := by
    have h := (((Hp.start w).new 28 [.int .i64 a0, .int .i64 b0, .int .i64 a1, .int .i64 b1, .int .i64 a2, .int .i64 b2]).new 26 [.int .i64 kn, .int .i64 kd]).new 28 [.int .i64 0, .int .i64 0, .int .i64 0, .int .i64 0, .int .i64 0, .int .i64 0]
    simp only [World.size_alloc] at h
    exact h
  have HM0 := Lib.hid hM0
  clear hM0
  go_enter Tryd.func18, Tryd.ntmps18
  go_wp2_with fail
  refine (HB.out _).mono ?_
  rintro e W0 ⟨rfl, hb⟩
  have HM1 := Lib.hid (HM0.out.step hb)
  clear hb HM0
  obtain ⟨e0, e1⟩ := (⟨(HM1.out.at_ 1 rfl).cell 0, (HM1.out.at_ 1 rfl).cell 1⟩ : _ ∧ _)
  go_wp2_with fail
  refine (HF.out _).mono ?_
  rintro e W1 ⟨rfl, hb⟩
  have HM2 := Lib.hid (HM1.out.step hb)
  clear hb HM1 e0 e1
  obtain ⟨e0, e1, e2, e3, e4, e5⟩ := six_of (HM2.out.at_ 0 rfl)
  obtain ⟨f0, f1⟩ := (⟨(HM2.out.at_ 1 rfl).cell 0, (HM2.out.at_ 1 rfl).cell 1⟩ : _ ∧ _)
  go_wp2_with fail
  refine (HE.out _).mono ?_
  rintro e W2 ⟨rfl, hb⟩
  have HMZ := Lib.hid (HM2.out.step hb)
  clear hb HM2 e0 e1 e2 e3 e4 e5 f0 f1
  obtain ⟨e0, e1, e2, e3, e4, e5⟩ := six_of (HMZ.out.at_ 2 rfl)
  obtain ⟨f0, f1, f2, f3, f4, f5⟩ := six_free (HMZ.out.at_ 2 rfl)
  go_wp2
  obtain ⟨WZ, hWZ⟩ : ∃ WZ, WZ = (((((W2.setCell ⟨w.heap.size + 1 + 1, 0, none⟩ (.int .i64 t0)).setCell ⟨w.heap.size + 1 + 1, 1, none⟩ (.int .i64 t1)).setCell ⟨w.heap.size + 1 + 1, 2, none⟩ (.int .i64 t2)).setCell ⟨w.heap.size + 1 + 1, 3, none⟩ (.int .i64 t3)).setCell ⟨w.heap.size + 1 + 1, 4, none⟩ (.int .i64 t4)).setCell ⟨w.heap.size + 1 + 1, 5, none⟩ (.int .i64 t5) := ⟨_, rfl⟩
  have hz := HMZ.out.put6 2 rfl (.int .i64 t0) (.int .i64 t1) (.int .i64 t2) (.int .i64 t3) (.int .i64 t4) (.int .i64 t5)
  rw [← hWZ] at hz ⊢
  obtain ⟨g0, g1, g2, g3, g4, g5⟩ := six_of (hz.at_ 2 rfl)
  exact bodyPost_ret (v := .tuple #[szv t0 t1 t2 t3 t4 t5, .int .i64 q]) (by simp [g0, g1, g2, g3, g4, g5, results, Tryd.results18, go_sem]) rfl ⟨rfl, hz.below⟩
end Go.Proofs.YtplonkeipdbchaaDoor
