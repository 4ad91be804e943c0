/- Law IntervalCompares: the walk. Conditions: parts are ints; the library's table of powers of ten reads as its text lays it. Printed by gencompareslaw.py. -/
import Derived.Test.YtplonkeipdbchaaGreatDoorIvErrs
import Derived.Test.YtplonkeipdbchaaGreatDoorIvMono
import Derived.Test.YtplonkeipdbchaaGreatDoorIvLow
import Derived.Test.YtplonkeipdbchaaGreatDoorRefOAdd
import Derived.Test.YtplonkeipdbchaaGreatDoorRefSgn
import Derived.Test.YtplonkeipdbchaaGreatDoorLaw05
import Derived.Test.YtplonkeipdbchaaGreatDoorKnown05
namespace Go.Proofs.YtplonkeipdbchaaGreatDoor
open Go.RowKit

theorem cmps_mem (a0 b0 a1 b1 a2 b2 c0 d0 c1 d1 c2 d2 : Int) (w : World) : Hp w [(w.heap.size, 25, [.int .i64 a0, .int .i64 b0, .int .i64 a1, .int .i64 b1, .int .i64 a2, .int .i64 b2]), (w.heap.size + 1, 25, [.int .i64 c0, .int .i64 d0, .int .i64 c1, .int .i64 d1, .int .i64 c2, .int .i64 d2])] ((w.alloc (.cells #[.int .i64 a0, .int .i64 b0, .int .i64 a1, .int .i64 b1, .int .i64 a2, .int .i64 b2] 25)).alloc (.cells #[.int .i64 c0, .int .i64 d0, .int .i64 c1, .int .i64 d1, .int .i64 c2, .int .i64 d2] 25)) := by
  have h := ((Hp.start w).new 25 [.int .i64 a0, .int .i64 b0, .int .i64 a1, .int .i64 b1, .int .i64 a2, .int .i64 b2]).new 25 [.int .i64 c0, .int .i64 d0, .int .i64 c1, .int .i64 d1, .int .i64 c2, .int .i64 d2]
  simp only [World.size_alloc] at h
  exact h
theorem ivE_rights {a0 b0 a1 b1 a2 b2 : Int} (h : ivE [(a0, b0), (a1, b1), (a2, b2)] = 0) : ∀ q ∈ [(a0, b0), (a1, b1), (a2, b2)], Right q.1 q.2 := by
  apply Decidable.byContradiction
  intro hc
  unfold ivE at h
  rw [if_neg hc] at h
  exact absurd h (by decide)
theorem low_tms {n M : Int} (hM : 0 < M) : lowN n M * M = n * lowD n M := by
  obtain ⟨g, hg, e1, e2, _, _⟩ := low_mul n M hM
  have e3 : lowN n M * M = lowN n M * (g * lowD n M) := by rw [e2]
  have e4 : n * lowD n M = (g * lowN n M) * lowD n M := by rw [e1]
  rw [e3, e4]
  simp only [Int.mul_left_comm, Int.mul_assoc]
/-- Exponents of a quotient in lowest terms are the quotient's. -/
theorem low_rat {a n M d : Int} (hM : 0 < M) (h : a * lowD n M = lowN n M * d) : a * M = n * d := by
  obtain ⟨_, _, _, _, hq, _⟩ := low_mul n M hM
  have h1 := low_tms (n := n) hM
  have h2 : lowD n M * (a * M) = lowD n M * (n * d) := by
    calc lowD n M * (a * M) = (a * lowD n M) * M := by ac_rfl
      _ = (lowN n M * M) * d := by rw [h]; exact Int.mul_right_comm _ _ _
      _ = lowD n M * (n * d) := by rw [h1]; ac_rfl
  exact Int.eq_of_mul_eq_mul_left (by omega) h2
theorem sgn_flip (a b : Int) : sgn (b - a) = -sgn (a - b) := by
  unfold sgn
  rcases Int.lt_trichotomy (a - b) 0 with h | h | h
  · rw [if_pos h, if_neg (by omega), if_neg (by omega)]; rfl
  · rw [if_neg (by omega), if_pos (by omega), if_neg (by omega), if_pos h]; rfl
  · rw [if_pos (by omega), if_neg (by omega), if_neg (by omega)]
set_option maxRecDepth 100000 in
set_option maxHeartbeats 16000000 in
/-- One of the sizes is wrong. -/
theorem lcmps_err (a0 b0 a1 b1 a2 b2 c0 d0 c1 d1 c2 d2 : Int) (w : World) (ht : Tab w) (h : ivE [(a0, b0), (a1, b1), (a2, b2)] ≠ 0 ∨ ivE [(c0, d0), (c1, d1), (c2, d2)] ≠ 0) :
    Calls Tryz.prog 4 #[szv a0 b0 a1 b1 a2 b2, szv c0 d0 c1 d1 c2 d2] w fun e w' => e = .returned (.bool true) ∧ Below w.heap.size w w' := by
  have HM0 := Lib.hid (cmps_mem a0 b0 a1 b1 a2 b2 c0 d0 c1 d1 c2 d2 w)
  have HT := Lib.hid ht
  have hra := fun W => lread_any a0 b0 a1 b1 a2 b2 W
  have hrb := fun W => lread_any c0 d0 c1 d1 c2 d2 W
  obtain ⟨xa, xb, xc, xd, hxv, _, _⟩ := rdV_form a0 b0 a1 b1 a2 b2
  obtain ⟨ya, yb, yc, yd, hyv, _, _⟩ := rdV_form c0 d0 c1 d1 c2 d2
  rw [hxv] at hra
  rw [hyv] at hrb
  obtain ⟨r1, hr1⟩ : ∃ r, r = ivE [(a0, b0), (a1, b1), (a2, b2)] := ⟨_, rfl⟩
  obtain ⟨r2, hr2⟩ : ∃ r, r = ivE [(c0, d0), (c1, d1), (c2, d2)] := ⟨_, rfl⟩
  rw [← hr1] at hra h
  rw [← hr2] at hrb h
  have HRA := Lib.hid hra
  have HRB := Lib.hid hrb
  clear ht hra hrb hxv hyv hr1 hr2
  by_cases h1 : r1 = 0
  · have h2 : r2 ≠ 0 := by omega
    have hz1 : (r1 != 0) = false := by simpa using h1
    have hz2 : (r2 != 0) = true := by simpa using h2
    clear h h1 h2
    go_enter Tryz.func4, Tryz.ntmps4
    go_wp2_with fail
    refine (HRA.out _).mono ?_
    rintro e w1 ⟨rfl, hb⟩
    obtain ⟨k0_0, k0_1, k0_2, k0_3, k0_4, k0_5⟩ := six_of ((HM0.out.step hb).at_ 1 rfl)
    have lt1 := ((HM0.out.step hb).at_ 1 rfl).lt
    have HM1 := Lib.hid (show Hp w [(w.heap.size, 25, [.int .i64 a0, .int .i64 b0, .int .i64 a1, .int .i64 b1, .int .i64 a2, .int .i64 b2]), (w.heap.size + 1, 25, [.int .i64 c0, .int .i64 d0, .int .i64 c1, .int .i64 d1, .int .i64 c2, .int .i64 d2]), (w1.heap.size, 28, [.int .i64 xa, .int .i64 xb, .int .i64 xc, .int .i64 xd])] _ from (HM0.out.step hb).new 28 [.int .i64 xa, .int .i64 xb, .int .i64 xc, .int .i64 xd])
    clear hb HM0
    go_wp2_with fail
    refine (HRB.out _).mono ?_
    rintro e w2 ⟨rfl, hb⟩
    have HM2 := Lib.hid (show Hp w [(w.heap.size, 25, [.int .i64 a0, .int .i64 b0, .int .i64 a1, .int .i64 b1, .int .i64 a2, .int .i64 b2]), (w.heap.size + 1, 25, [.int .i64 c0, .int .i64 d0, .int .i64 c1, .int .i64 d1, .int .i64 c2, .int .i64 d2]), (w1.heap.size, 28, [.int .i64 xa, .int .i64 xb, .int .i64 xc, .int .i64 xd]), (w2.heap.size, 28, [.int .i64 ya, .int .i64 yb, .int .i64 yc, .int .i64 yd])] _ from (HM1.out.step hb).new 28 [.int .i64 ya, .int .i64 yb, .int .i64 yc, .int .i64 yd])
    clear hb HM1 k0_0 k0_1 k0_2 k0_3 k0_4 k0_5 lt1
    go_wp2_with fail
    refine (lknown_any _ (HT.out.below HM2.out.below)).mono ?_
    rintro e w3 ⟨rfl, hb⟩
    have HM3 := Lib.hid (show Hp w [(w.heap.size, 25, [.int .i64 a0, .int .i64 b0, .int .i64 a1, .int .i64 b1, .int .i64 a2, .int .i64 b2]), (w.heap.size + 1, 25, [.int .i64 c0, .int .i64 d0, .int .i64 c1, .int .i64 d1, .int .i64 c2, .int .i64 d2]), (w1.heap.size, 28, [.int .i64 xa, .int .i64 xb, .int .i64 xc, .int .i64 xd]), (w2.heap.size, 28, [.int .i64 ya, .int .i64 yb, .int .i64 yc, .int .i64 yd])] _ from (HM2.out.step hb))
    clear hb HM2
    go_wp2_with fail
    refine (lknown_any _ (HT.out.below HM3.out.below)).mono ?_
    rintro e w4 ⟨rfl, hb⟩
    have HM4 := Lib.hid (show Hp w [(w.heap.size, 25, [.int .i64 a0, .int .i64 b0, .int .i64 a1, .int .i64 b1, .int .i64 a2, .int .i64 b2]), (w.heap.size + 1, 25, [.int .i64 c0, .int .i64 d0, .int .i64 c1, .int .i64 d1, .int .i64 c2, .int .i64 d2]), (w1.heap.size, 28, [.int .i64 xa, .int .i64 xb, .int .i64 xc, .int .i64 xd]), (w2.heap.size, 28, [.int .i64 ya, .int .i64 yb, .int .i64 yc, .int .i64 yd])] _ from (HM3.out.step hb))
    clear hb HM3
    go_wp2
    go_ret
    exact ⟨rfl, HM4.out.below⟩
  · have hz1 : (r1 != 0) = true := by simpa using h1
    clear h h1
    go_enter Tryz.func4, Tryz.ntmps4
    go_wp2_with fail
    refine (HRA.out _).mono ?_
    rintro e w1 ⟨rfl, hb⟩
    obtain ⟨k0_0, k0_1, k0_2, k0_3, k0_4, k0_5⟩ := six_of ((HM0.out.step hb).at_ 1 rfl)
    have lt1 := ((HM0.out.step hb).at_ 1 rfl).lt
    have HM1 := Lib.hid (show Hp w [(w.heap.size, 25, [.int .i64 a0, .int .i64 b0, .int .i64 a1, .int .i64 b1, .int .i64 a2, .int .i64 b2]), (w.heap.size + 1, 25, [.int .i64 c0, .int .i64 d0, .int .i64 c1, .int .i64 d1, .int .i64 c2, .int .i64 d2]), (w1.heap.size, 28, [.int .i64 xa, .int .i64 xb, .int .i64 xc, .int .i64 xd])] _ from (HM0.out.step hb).new 28 [.int .i64 xa, .int .i64 xb, .int .i64 xc, .int .i64 xd])
    clear hb HM0
    go_wp2_with fail
    refine (HRB.out _).mono ?_
    rintro e w2 ⟨rfl, hb⟩
    have HM2 := Lib.hid (show Hp w [(w.heap.size, 25, [.int .i64 a0, .int .i64 b0, .int .i64 a1, .int .i64 b1, .int .i64 a2, .int .i64 b2]), (w.heap.size + 1, 25, [.int .i64 c0, .int .i64 d0, .int .i64 c1, .int .i64 d1, .int .i64 c2, .int .i64 d2]), (w1.heap.size, 28, [.int .i64 xa, .int .i64 xb, .int .i64 xc, .int .i64 xd]), (w2.heap.size, 28, [.int .i64 ya, .int .i64 yb, .int .i64 yc, .int .i64 yd])] _ from (HM1.out.step hb).new 28 [.int .i64 ya, .int .i64 yb, .int .i64 yc, .int .i64 yd])
    clear hb HM1 k0_0 k0_1 k0_2 k0_3 k0_4 k0_5 lt1
    go_wp2_with fail
    refine (lknown_any _ (HT.out.below HM2.out.below)).mono ?_
    rintro e w3 ⟨rfl, hb⟩
    have HM3 := Lib.hid (show Hp w [(w.heap.size, 25, [.int .i64 a0, .int .i64 b0, .int .i64 a1, .int .i64 b1, .int .i64 a2, .int .i64 b2]), (w.heap.size + 1, 25, [.int .i64 c0, .int .i64 d0, .int .i64 c1, .int .i64 d1, .int .i64 c2, .int .i64 d2]), (w1.heap.size, 28, [.int .i64 xa, .int .i64 xb, .int .i64 xc, .int .i64 xd]), (w2.heap.size, 28, [.int .i64 ya, .int .i64 yb, .int .i64 yc, .int .i64 yd])] _ from (HM2.out.step hb))
    clear hb HM2
    go_wp2_with fail
    refine (lknown_any _ (HT.out.below HM3.out.below)).mono ?_
    rintro e w4 ⟨rfl, hb⟩
    have HM4 := Lib.hid (show Hp w [(w.heap.size, 25, [.int .i64 a0, .int .i64 b0, .int .i64 a1, .int .i64 b1, .int .i64 a2, .int .i64 b2]), (w.heap.size + 1, 25, [.int .i64 c0, .int .i64 d0, .int .i64 c1, .int .i64 d1, .int .i64 c2, .int .i64 d2]), (w1.heap.size, 28, [.int .i64 xa, .int .i64 xb, .int .i64 xc, .int .i64 xd]), (w2.heap.size, 28, [.int .i64 ya, .int .i64 yb, .int .i64 yc, .int .i64 yd])] _ from (HM3.out.step hb))
    clear hb HM3
    go_wp2
    go_ret
    exact ⟨rfl, HM4.out.below⟩
set_option maxRecDepth 100000 in
set_option maxHeartbeats 16000000 in
/-- Both sizes are right. -/
theorem lcmps_ok (a0 b0 a1 b1 a2 b2 c0 d0 c1 d1 c2 d2 : Int) (w : World) (ht : Tab w) (h1 : ivE [(a0, b0), (a1, b1), (a2, b2)] = 0) (h2 : ivE [(c0, d0), (c1, d1), (c2, d2)] = 0) :
    Calls Tryz.prog 4 #[szv a0 b0 a1 b1 a2 b2, szv c0 d0 c1 d1 c2 d2] w fun e w' => e = .returned (.bool true) ∧ Below w.heap.size w w' := by
  have HM0 := Lib.hid (cmps_mem a0 b0 a1 b1 a2 b2 c0 d0 c1 d1 c2 d2 w)
  have HT := Lib.hid ht
  have hra := fun W => lread_any a0 b0 a1 b1 a2 b2 W
  have hrb := fun W => lread_any c0 d0 c1 d1 c2 d2 W
  obtain ⟨x, y, z, D, hxv, hxp, _⟩ := rdV_form a0 b0 a1 b1 a2 b2
  obtain ⟨u, v, t, E, hyv, hyp, _⟩ := rdV_form c0 d0 c1 d1 c2 d2
  rw [hxv, h1] at hra
  rw [hyv, h2] at hrb
  replace hxp := hxp h1
  replace hyp := hyp h2
  have hA := ivE_rights h1
  have hB := ivE_rights h2
  obtain ⟨hD, hl⟩ := prt_num hxp (right_mild hA)
  obtain ⟨hE, hm⟩ := prt_num hyp (right_mild hB)
  have bx := hl x (by simp)
  have bY := hl y (by simp)
  have bz := hl z (by simp)
  have bu := hm u (by simp)
  have bv := hm v (by simp)
  have bt := hm t (by simp)
  have hDE : 0 < D * E := Int.mul_pos (by omega) (by omega)
  have hDE2 := mul_bd (a := D) (b := E) (by omega) (by omega) (by omega) (by omega)
  have hR := fun W => radd_any x y z D u v t E (-1) W ⟨by omega, by omega⟩ ⟨by omega, by omega⟩ ⟨by omega, by omega⟩ ⟨by omega, by omega⟩ ⟨by omega, by omega⟩ ⟨by omega, by omega⟩ ⟨by omega, by omega⟩ ⟨by omega, by omega⟩ (by decide)
  have bd0 := (radd_bd (k := -1) (x := x) (u := u) (D := D) (E := E) ⟨by omega, by omega⟩ ⟨by omega, by omega⟩ ⟨by omega, by omega⟩ ⟨by omega, by omega⟩ (by decide)).2.2.2.2
  have bd1 := (radd_bd (k := -1) (x := y) (u := v) (D := D) (E := E) ⟨by omega, by omega⟩ ⟨by omega, by omega⟩ ⟨by omega, by omega⟩ ⟨by omega, by omega⟩ (by decide)).2.2.2.2
  have bd2 := (radd_bd (k := -1) (x := z) (u := t) (D := D) (E := E) ⟨by omega, by omega⟩ ⟨by omega, by omega⟩ ⟨by omega, by omega⟩ ⟨by omega, by omega⟩ (by decide)).2.2.2.2
  have hW := fun W => write_any (x * E + (-1) * u * D) (y * E + (-1) * v * D) (z * E + (-1) * t * D) (D * E) W (by omega) (by omega) (by omega) hDE (by omega)
  have hs1 := fun W hW => refSign_any x y z D W hW ⟨by omega, by omega⟩ ⟨by omega, by omega⟩ ⟨by omega, by omega⟩
  have hsg := fun W hW => iSign_any a0 b0 a1 b1 a2 b2 x y z D W hW hA hxp
  have hc1 := fun W hW => icompare_all a0 b0 a1 b1 a2 b2 c0 d0 c1 d1 c2 d2 x y z D u v t E W hW hA hB hxp hyp
  have hc2 := fun W hW => icompare_all c0 d0 c1 d1 c2 d2 a0 b0 a1 b1 a2 b2 u v t E x y z D W hW hB hA hyp hxp
  obtain ⟨p0, hp0⟩ : ∃ p, p = lowN (x * E + (-1) * u * D) (D * E) := ⟨_, rfl⟩
  obtain ⟨q0, hq0⟩ : ∃ p, p = lowD (x * E + (-1) * u * D) (D * E) := ⟨_, rfl⟩
  rw [← hp0, ← hq0] at hW
  obtain ⟨p1, hp1⟩ : ∃ p, p = lowN (y * E + (-1) * v * D) (D * E) := ⟨_, rfl⟩
  obtain ⟨q1, hq1⟩ : ∃ p, p = lowD (y * E + (-1) * v * D) (D * E) := ⟨_, rfl⟩
  rw [← hp1, ← hq1] at hW
  obtain ⟨p2, hp2⟩ : ∃ p, p = lowN (z * E + (-1) * t * D) (D * E) := ⟨_, rfl⟩
  obtain ⟨q2, hq2⟩ : ∃ p, p = lowD (z * E + (-1) * t * D) (D * E) := ⟨_, rfl⟩
  rw [← hp2, ← hq2] at hW
  have hrd := fun W => read_any p0 q0 p1 q1 p2 q2 W
  obtain ⟨oa, ob, oc, od, hov, hop, _⟩ := rdV_form p0 q0 p1 q1 p2 q2
  rw [hov] at hrd
  obtain ⟨sm, hsm⟩ : ∃ s, s = sgn (E * lgZ x y z - D * lgZ u v t) := ⟨_, rfl⟩
  rw [sgn_flip (E * lgZ x y z) (D * lgZ u v t)] at hc2
  rw [← hsm] at hc1 hc2
  have hsb : -1 ≤ sm ∧ sm ≤ 1 := by rw [hsm]; exact sgn_bd _
  have hwk : IntKind.i64.wrap (-sm) = -sm := IntWalk.i64_in _ (by omega)
  have hs2 : ivE [(p0, q0), (p1, q1), (p2, q2)] = 0 → ∀ W, Tab W → Calls Tryz.prog 16 #[ovv oa ob oc od] W fun e w' => e = .returned (.int .i64 sm) ∧ Below W.heap.size W w' := fun he W hT => by
    have hop' := hop he
    have hO := ivE_rights he
    obtain ⟨hod, hol⟩ := prt_num hop' (right_mild hO)
    have b0 := hol oa (by simp)
    have b1 := hol ob (by simp)
    have b2 := hol oc (by simp)
    obtain ⟨g0, g1, g2⟩ := prt_rat hO hop'
    rw [hp0, hq0] at g0
    rw [hp1, hq1] at g1
    rw [hp2, hq2] at g2
    have k0 := low_rat hDE g0
    have k1 := low_rat hDE g1
    have k2 := low_rat hDE g2
    have e : ∀ x u : Int, x * E + (-1) * u * D = x * E - u * D := fun x u => by rw [Int.neg_mul, Int.one_mul, Int.neg_mul, ← Int.sub_eq_add_neg]
    rw [e] at k0 k1 k2
    have h := refSign_any oa ob oc od W hT ⟨by omega, by omega⟩ ⟨by omega, by omega⟩ ⟨by omega, by omega⟩
    rw [sgn_diff hD.1 hE.1 hod.1 k0 k1 k2, ← hsm] at h
    exact h
  obtain ⟨r3, hr3⟩ : ∃ r, r = ivE [(p0, q0), (p1, q1), (p2, q2)] := ⟨_, rfl⟩
  rw [← hr3] at hrd hs2
  obtain ⟨sx, hsx⟩ : ∃ s, s = sgn (lgZ x y z) := ⟨_, rfl⟩
  rw [← hsx] at hs1 hsg
  have hsO := fun W => lshort_any oa ob oc od W
  have hsX := fun W => lshort_any x y z D W
  obtain ⟨f1, hf1⟩ : ∃ b, b = shB oa ob oc := ⟨_, rfl⟩
  obtain ⟨f2, hf2⟩ : ∃ b, b = shB x y z := ⟨_, rfl⟩
  rw [← hf1] at hsO
  rw [← hf2] at hsX
  obtain ⟨DE, hde⟩ : ∃ m, m = D * E := ⟨_, rfl⟩
  rw [← hde] at hR hW
  obtain ⟨m0, hm0⟩ : ∃ m, m = (x * E + (-1) * u * D) := ⟨_, rfl⟩
  obtain ⟨m1, hm1⟩ : ∃ m, m = (y * E + (-1) * v * D) := ⟨_, rfl⟩
  obtain ⟨m2, hm2⟩ : ∃ m, m = (z * E + (-1) * t * D) := ⟨_, rfl⟩
  rw [← hm0, ← hm1, ← hm2] at hR hW
  have HRA := Lib.hid hra
  have HRB := Lib.hid hrb
  have HR := Lib.hid hR
  have HW := Lib.hid hW
  have HRD := Lib.hid hrd
  have HS1 := Lib.hid hs1
  have HS2 := Lib.hid hs2
  have HSG := Lib.hid hsg
  have HC1 := Lib.hid hc1
  have HC2 := Lib.hid hc2
  have HSO := Lib.hid hsO
  have HSX := Lib.hid hsX
  have HWK := Lib.hid hwk
  clear ht h1 h2 hra hrb hR hW hrd hs1 hs2 hsg hc1 hc2 hsO hsX hwk hxv hyv hxp hyp hA hB hD hE hl hm bx bY bz bu bv bt hDE hDE2 bd0 bd1 bd2 hov hop hsm hsb hsx hf1 hf2 hde hm0 hm1 hm2 hp0 hp1 hp2 hq0 hq1 hq2 hr3
  go_enter Tryz.func4, Tryz.ntmps4
  go_wp2_with fail
  refine (HRA.out _).mono ?_
  rintro e w1 ⟨rfl, hb⟩
  obtain ⟨k0_0, k0_1, k0_2, k0_3, k0_4, k0_5⟩ := six_of ((HM0.out.step hb).at_ 1 rfl)
  have lt1 := ((HM0.out.step hb).at_ 1 rfl).lt
  have HM1 := Lib.hid (show Hp w [(w.heap.size, 25, [.int .i64 a0, .int .i64 b0, .int .i64 a1, .int .i64 b1, .int .i64 a2, .int .i64 b2]), (w.heap.size + 1, 25, [.int .i64 c0, .int .i64 d0, .int .i64 c1, .int .i64 d1, .int .i64 c2, .int .i64 d2]), (w1.heap.size, 28, [.int .i64 x, .int .i64 y, .int .i64 z, .int .i64 D])] _ from (HM0.out.step hb).new 28 [.int .i64 x, .int .i64 y, .int .i64 z, .int .i64 D])
  clear hb HM0
  go_wp2_with fail
  refine (HRB.out _).mono ?_
  rintro e w2 ⟨rfl, hb⟩
  have HM2 := Lib.hid (show Hp w [(w.heap.size, 25, [.int .i64 a0, .int .i64 b0, .int .i64 a1, .int .i64 b1, .int .i64 a2, .int .i64 b2]), (w.heap.size + 1, 25, [.int .i64 c0, .int .i64 d0, .int .i64 c1, .int .i64 d1, .int .i64 c2, .int .i64 d2]), (w1.heap.size, 28, [.int .i64 x, .int .i64 y, .int .i64 z, .int .i64 D]), (w2.heap.size, 28, [.int .i64 u, .int .i64 v, .int .i64 t, .int .i64 E])] _ from (HM1.out.step hb).new 28 [.int .i64 u, .int .i64 v, .int .i64 t, .int .i64 E])
  clear hb HM1 k0_0 k0_1 k0_2 k0_3 k0_4 k0_5 lt1
  go_wp2_with fail
  refine (lknown_any _ (HT.out.below HM2.out.below)).mono ?_
  rintro e w3 ⟨rfl, hb⟩
  have HM3 := Lib.hid (show Hp w [(w.heap.size, 25, [.int .i64 a0, .int .i64 b0, .int .i64 a1, .int .i64 b1, .int .i64 a2, .int .i64 b2]), (w.heap.size + 1, 25, [.int .i64 c0, .int .i64 d0, .int .i64 c1, .int .i64 d1, .int .i64 c2, .int .i64 d2]), (w1.heap.size, 28, [.int .i64 x, .int .i64 y, .int .i64 z, .int .i64 D]), (w2.heap.size, 28, [.int .i64 u, .int .i64 v, .int .i64 t, .int .i64 E])] _ from (HM2.out.step hb))
  obtain ⟨k1_0, k1_1, k1_2, k1_3⟩ := four_of (HM3.out.at_ 2 rfl)
  obtain ⟨k2_0, k2_1, k2_2, k2_3⟩ := four_of (HM3.out.at_ 3 rfl)
  clear hb HM2
  go_wp2_with fail
  refine (HR.out _).mono ?_
  rintro e w4 ⟨rfl, hb⟩
  have HM4 := Lib.hid (show Hp w [(w.heap.size, 25, [.int .i64 a0, .int .i64 b0, .int .i64 a1, .int .i64 b1, .int .i64 a2, .int .i64 b2]), (w.heap.size + 1, 25, [.int .i64 c0, .int .i64 d0, .int .i64 c1, .int .i64 d1, .int .i64 c2, .int .i64 d2]), (w1.heap.size, 28, [.int .i64 x, .int .i64 y, .int .i64 z, .int .i64 D]), (w2.heap.size, 28, [.int .i64 u, .int .i64 v, .int .i64 t, .int .i64 E]), (w4.heap.size, 28, [.int .i64 m0, .int .i64 m1, .int .i64 m2, .int .i64 DE])] _ from (HM3.out.step hb).new 28 [.int .i64 m0, .int .i64 m1, .int .i64 m2, .int .i64 DE])
  clear hb HM3 k1_0 k1_1 k1_2 k1_3 k2_0 k2_1 k2_2 k2_3
  go_wp2_with fail
  refine (HW.out _).mono ?_
  rintro e w5 ⟨rfl, hb⟩
  have HM5 := Lib.hid (show Hp w [(w.heap.size, 25, [.int .i64 a0, .int .i64 b0, .int .i64 a1, .int .i64 b1, .int .i64 a2, .int .i64 b2]), (w.heap.size + 1, 25, [.int .i64 c0, .int .i64 d0, .int .i64 c1, .int .i64 d1, .int .i64 c2, .int .i64 d2]), (w1.heap.size, 28, [.int .i64 x, .int .i64 y, .int .i64 z, .int .i64 D]), (w2.heap.size, 28, [.int .i64 u, .int .i64 v, .int .i64 t, .int .i64 E]), (w4.heap.size, 28, [.int .i64 m0, .int .i64 m1, .int .i64 m2, .int .i64 DE])] _ from (HM4.out.step hb))
  clear hb HM4
  go_wp2_with fail
  refine (HRD.out _).mono ?_
  rintro e w6 ⟨rfl, hb⟩
  have HM6 := Lib.hid (show Hp w [(w.heap.size, 25, [.int .i64 a0, .int .i64 b0, .int .i64 a1, .int .i64 b1, .int .i64 a2, .int .i64 b2]), (w.heap.size + 1, 25, [.int .i64 c0, .int .i64 d0, .int .i64 c1, .int .i64 d1, .int .i64 c2, .int .i64 d2]), (w1.heap.size, 28, [.int .i64 x, .int .i64 y, .int .i64 z, .int .i64 D]), (w2.heap.size, 28, [.int .i64 u, .int .i64 v, .int .i64 t, .int .i64 E]), (w4.heap.size, 28, [.int .i64 m0, .int .i64 m1, .int .i64 m2, .int .i64 DE]), (w6.heap.size, 28, [.int .i64 oa, .int .i64 ob, .int .i64 oc, .int .i64 od])] _ from (HM5.out.step hb).new 28 [.int .i64 oa, .int .i64 ob, .int .i64 oc, .int .i64 od])
  clear hb HM5
  by_cases h3 : r3 = 0
  · subst h3
    have hs2 := HS2.out rfl
    have HS3 := Lib.hid hs2
    clear hs2 HS2
    go_wp2_with fail
    refine (HSO.out _).mono ?_
    rintro e w7 ⟨rfl, hb⟩
    have HM7 := Lib.hid (show Hp w [(w.heap.size, 25, [.int .i64 a0, .int .i64 b0, .int .i64 a1, .int .i64 b1, .int .i64 a2, .int .i64 b2]), (w.heap.size + 1, 25, [.int .i64 c0, .int .i64 d0, .int .i64 c1, .int .i64 d1, .int .i64 c2, .int .i64 d2]), (w1.heap.size, 28, [.int .i64 x, .int .i64 y, .int .i64 z, .int .i64 D]), (w2.heap.size, 28, [.int .i64 u, .int .i64 v, .int .i64 t, .int .i64 E]), (w4.heap.size, 28, [.int .i64 m0, .int .i64 m1, .int .i64 m2, .int .i64 DE]), (w6.heap.size, 28, [.int .i64 oa, .int .i64 ob, .int .i64 oc, .int .i64 od])] _ from (HM6.out.step hb))
    clear hb HM6
    cases f1 with
    | false =>
      go_wp2
      go_ret
      exact ⟨rfl, HM7.out.below⟩
    | true =>
      obtain ⟨k3_0, k3_1, k3_2, k3_3⟩ := four_of (HM7.out.at_ 2 rfl)
      go_wp2_with fail
      refine (HSX.out _).mono ?_
      rintro e w8 ⟨rfl, hb⟩
      have HM8 := Lib.hid (show Hp w [(w.heap.size, 25, [.int .i64 a0, .int .i64 b0, .int .i64 a1, .int .i64 b1, .int .i64 a2, .int .i64 b2]), (w.heap.size + 1, 25, [.int .i64 c0, .int .i64 d0, .int .i64 c1, .int .i64 d1, .int .i64 c2, .int .i64 d2]), (w1.heap.size, 28, [.int .i64 x, .int .i64 y, .int .i64 z, .int .i64 D]), (w2.heap.size, 28, [.int .i64 u, .int .i64 v, .int .i64 t, .int .i64 E]), (w4.heap.size, 28, [.int .i64 m0, .int .i64 m1, .int .i64 m2, .int .i64 DE]), (w6.heap.size, 28, [.int .i64 oa, .int .i64 ob, .int .i64 oc, .int .i64 od])] _ from (HM7.out.step hb))
      clear hb HM7 k3_0 k3_1 k3_2 k3_3
      cases f2 with
      | false =>
        go_wp2
        go_ret
        exact ⟨rfl, HM8.out.below⟩
      | true =>
        obtain ⟨k4_0, k4_1, k4_2, k4_3, k4_4, k4_5⟩ := six_of (HM8.out.at_ 0 rfl)
        go_wp2_with fail
        refine (HSG.out _ (HT.out.below HM8.out.below)).mono ?_
        rintro e w9 ⟨rfl, hb⟩
        have HM9 := Lib.hid (show Hp w [(w.heap.size, 25, [.int .i64 a0, .int .i64 b0, .int .i64 a1, .int .i64 b1, .int .i64 a2, .int .i64 b2]), (w.heap.size + 1, 25, [.int .i64 c0, .int .i64 d0, .int .i64 c1, .int .i64 d1, .int .i64 c2, .int .i64 d2]), (w1.heap.size, 28, [.int .i64 x, .int .i64 y, .int .i64 z, .int .i64 D]), (w2.heap.size, 28, [.int .i64 u, .int .i64 v, .int .i64 t, .int .i64 E]), (w4.heap.size, 28, [.int .i64 m0, .int .i64 m1, .int .i64 m2, .int .i64 DE]), (w6.heap.size, 28, [.int .i64 oa, .int .i64 ob, .int .i64 oc, .int .i64 od])] _ from (HM8.out.step hb))
        obtain ⟨k5_0, k5_1, k5_2, k5_3, k5_4, k5_5⟩ := six_of (HM9.out.at_ 0 rfl)
        obtain ⟨k6_0, k6_1, k6_2, k6_3, k6_4, k6_5⟩ := six_of (HM9.out.at_ 1 rfl)
        clear hb HM8 k4_0 k4_1 k4_2 k4_3 k4_4 k4_5
        go_wp2_with fail
        refine (HC1.out _ (HT.out.below HM9.out.below)).mono ?_
        rintro e w10 ⟨rfl, hb⟩
        have HM10 := Lib.hid (show Hp w [(w.heap.size, 25, [.int .i64 a0, .int .i64 b0, .int .i64 a1, .int .i64 b1, .int .i64 a2, .int .i64 b2]), (w.heap.size + 1, 25, [.int .i64 c0, .int .i64 d0, .int .i64 c1, .int .i64 d1, .int .i64 c2, .int .i64 d2]), (w1.heap.size, 28, [.int .i64 x, .int .i64 y, .int .i64 z, .int .i64 D]), (w2.heap.size, 28, [.int .i64 u, .int .i64 v, .int .i64 t, .int .i64 E]), (w4.heap.size, 28, [.int .i64 m0, .int .i64 m1, .int .i64 m2, .int .i64 DE]), (w6.heap.size, 28, [.int .i64 oa, .int .i64 ob, .int .i64 oc, .int .i64 od])] _ from (HM9.out.step hb))
        obtain ⟨k7_0, k7_1, k7_2, k7_3, k7_4, k7_5⟩ := six_of (HM10.out.at_ 0 rfl)
        obtain ⟨k8_0, k8_1, k8_2, k8_3, k8_4, k8_5⟩ := six_of (HM10.out.at_ 1 rfl)
        clear hb HM9 k5_0 k5_1 k5_2 k5_3 k5_4 k5_5 k6_0 k6_1 k6_2 k6_3 k6_4 k6_5
        go_wp2_with fail
        refine (HC2.out _ (HT.out.below HM10.out.below)).mono ?_
        rintro e w11 ⟨rfl, hb⟩
        have HM11 := Lib.hid (show Hp w [(w.heap.size, 25, [.int .i64 a0, .int .i64 b0, .int .i64 a1, .int .i64 b1, .int .i64 a2, .int .i64 b2]), (w.heap.size + 1, 25, [.int .i64 c0, .int .i64 d0, .int .i64 c1, .int .i64 d1, .int .i64 c2, .int .i64 d2]), (w1.heap.size, 28, [.int .i64 x, .int .i64 y, .int .i64 z, .int .i64 D]), (w2.heap.size, 28, [.int .i64 u, .int .i64 v, .int .i64 t, .int .i64 E]), (w4.heap.size, 28, [.int .i64 m0, .int .i64 m1, .int .i64 m2, .int .i64 DE]), (w6.heap.size, 28, [.int .i64 oa, .int .i64 ob, .int .i64 oc, .int .i64 od])] _ from (HM10.out.step hb))
        obtain ⟨k9_0, k9_1, k9_2, k9_3⟩ := four_of (HM11.out.at_ 2 rfl)
        clear hb HM10 k7_0 k7_1 k7_2 k7_3 k7_4 k7_5 k8_0 k8_1 k8_2 k8_3 k8_4 k8_5
        go_wp2_with fail
        refine (HS1.out _ (HT.out.below HM11.out.below)).mono ?_
        rintro e w12 ⟨rfl, hb⟩
        have HM12 := Lib.hid (show Hp w [(w.heap.size, 25, [.int .i64 a0, .int .i64 b0, .int .i64 a1, .int .i64 b1, .int .i64 a2, .int .i64 b2]), (w.heap.size + 1, 25, [.int .i64 c0, .int .i64 d0, .int .i64 c1, .int .i64 d1, .int .i64 c2, .int .i64 d2]), (w1.heap.size, 28, [.int .i64 x, .int .i64 y, .int .i64 z, .int .i64 D]), (w2.heap.size, 28, [.int .i64 u, .int .i64 v, .int .i64 t, .int .i64 E]), (w4.heap.size, 28, [.int .i64 m0, .int .i64 m1, .int .i64 m2, .int .i64 DE]), (w6.heap.size, 28, [.int .i64 oa, .int .i64 ob, .int .i64 oc, .int .i64 od])] _ from (HM11.out.step hb))
        obtain ⟨k10_0, k10_1, k10_2, k10_3⟩ := four_of (HM12.out.at_ 5 rfl)
        clear hb HM11 k9_0 k9_1 k9_2 k9_3
        go_wp2_with fail
        refine (HS3.out _ (HT.out.below HM12.out.below)).mono ?_
        rintro e w13 ⟨rfl, hb⟩
        have HM13 := Lib.hid (show Hp w [(w.heap.size, 25, [.int .i64 a0, .int .i64 b0, .int .i64 a1, .int .i64 b1, .int .i64 a2, .int .i64 b2]), (w.heap.size + 1, 25, [.int .i64 c0, .int .i64 d0, .int .i64 c1, .int .i64 d1, .int .i64 c2, .int .i64 d2]), (w1.heap.size, 28, [.int .i64 x, .int .i64 y, .int .i64 z, .int .i64 D]), (w2.heap.size, 28, [.int .i64 u, .int .i64 v, .int .i64 t, .int .i64 E]), (w4.heap.size, 28, [.int .i64 m0, .int .i64 m1, .int .i64 m2, .int .i64 DE]), (w6.heap.size, 28, [.int .i64 oa, .int .i64 ob, .int .i64 oc, .int .i64 od])] _ from (HM12.out.step hb))
        clear hb HM12 k10_0 k10_1 k10_2 k10_3
        have hwk := HWK.out
        go_wp2
        go_ret
        exact ⟨rfl, HM13.out.below⟩
  · have hz3 : (r3 != 0) = true := by simpa using h3
    clear h3
    go_wp2
    go_ret
    exact ⟨rfl, HM6.out.below⟩
theorem lcmps_any (a0 b0 a1 b1 a2 b2 c0 d0 c1 d1 c2 d2 : Int) (w : World) (ht : Tab w) :
    Calls Tryz.prog 4 #[szv a0 b0 a1 b1 a2 b2, szv c0 d0 c1 d1 c2 d2] w fun e w' => e = .returned (.bool true) ∧ Below w.heap.size w w' := by
  by_cases h1 : ivE [(a0, b0), (a1, b1), (a2, b2)] = 0
  · by_cases h2 : ivE [(c0, d0), (c1, d1), (c2, d2)] = 0
    · exact lcmps_ok a0 b0 a1 b1 a2 b2 c0 d0 c1 d1 c2 d2 w ht h1 h2
    · exact lcmps_err a0 b0 a1 b1 a2 b2 c0 d0 c1 d1 c2 d2 w ht (.inr h2)
  · exact lcmps_err a0 b0 a1 b1 a2 b2 c0 d0 c1 d1 c2 d2 w ht (.inl h1)
end Go.Proofs.YtplonkeipdbchaaGreatDoor
