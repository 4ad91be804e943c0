/- Part 31 of 46 of the proof of the law: contracts of the functions that it reaches, and plain facts. Conditions: those that each contract names. -/
import Derived.Test.YtlmheeommpbimaaGreatDoorIntB27
import Derived.Test.YtlmheeommpbimaaGreatDoorIntB28
import Derived.Test.YtlmheeommpbimaaGreatDoorIntB26
import Derived.Test.YtlmheeommpbimaaGreatDoorIntB22
import Derived.Test.YtlmheeommpbimaaGreatDoorIntB30
import Derived.Test.YtlmheeommpbimaaGreatDoorIntB07
import Derived.Test.YtlmheeommpbimaaGreatDoorIntB06
namespace Go.Proofs.YtlmheeommpbimaaGreatDoor
section
open Go.RowKit
def ocZ (x y z D : Int) : Int := lgZ x y z / (D * lgU)
theorem oc_lt {x y z D n : Int} (hD : 1 ≤ D) : sgn (lgZ (x - n * D) y z) < 0 ↔ ocZ x y z D < n := by
 have hp : 0 < D * lgU := Int.mul_pos (by omega) (by decide)
 have e : lgZ (x - n * D) y z = lgZ x y z - n * (D * lgU) := by
  rw [lg_eq, lg_eq, Int.sub_mul, Int.mul_assoc]; omega
 unfold ocZ
 rw [Int.ediv_lt_iff_lt_mul hp, e]
 constructor
 ·intro h
  rcases Int.lt_trichotomy (lgZ x y z - n * (D * lgU)) 0 with h1 | h1 | h1
  ·omega
  ·rw [h1] at h; exact absurd h (by decide)
  ·rw [sgn_pos h1] at h; exact absurd h (by decide)
 ·intro h
  rw [sgn_neg (by omega)]; decide
theorem oc_bd {x y z D : Int} (hx : -900 ≤ x ∧ x ≤ 900) (hy : -900 ≤ y ∧ y ≤ 900) (hz : -900 ≤ z ∧ z ≤ 900) (hD : 1 ≤ D ∧ D ≤ 240) : -5000 ≤ ocZ x y z D * D ∧ ocZ x y z D * D ≤ 5000 := by
 have hp : 0 < D * lgU := Int.mul_pos (by omega) (by decide)
 have h := lg_eq x y z
 have h1 : ocZ x y z D * (D * lgU) ≤ lgZ x y z := Int.ediv_mul_le _ (Int.ne_of_gt hp)
 have h2 : lgZ x y z < (ocZ x y z D + 1) * (D * lgU) := Int.lt_ediv_add_one_mul_self _ hp
 rw [Int.add_mul, Int.one_mul] at h2
 rw [← Int.mul_assoc] at h1 h2
 obtain ⟨k, hk⟩ : ∃ k, k = ocZ x y z D * D := ⟨_, rfl⟩
 rw [← hk] at h1 h2 ⊢
 unfold lgU lgT lgF at *
 omega
theorem guess_bd {s D : Int} (hs : s.natAbs ≤ 4500000000) (hD : 1 ≤ D ∧ D ≤ 240) : -5000 ≤ (s.tdiv D).tdiv 1000000 * D ∧ (s.tdiv D).tdiv 1000000 * D ≤ 5000 := by
 have h1 : ((s.tdiv D).tdiv 1000000).natAbs = s.natAbs / D.natAbs / 1000000 := by rw [Int.natAbs_tdiv, Int.natAbs_tdiv]; rfl
 have h2 : (((s.tdiv D).tdiv 1000000) * D).natAbs ≤ 4500 := by
  rw [Int.natAbs_mul, h1, Nat.div_div_eq_div_mul, Nat.mul_comm D.natAbs, ← Nat.div_div_eq_div_mul]
  have h3 : s.natAbs / 1000000 ≤ 4500 := Nat.div_le_of_le_mul (by omega)
  exact Nat.le_trans (Nat.div_mul_le_self _ _) h3
 omega
set_option maxRecDepth 100000 in
set_option maxHeartbeats 8000000 in
theorem refoct_any (x y z D : Int) (w : World) (ht : Tab w) (hx : -900 ≤ x ∧ x ≤ 900) (hy : -900 ≤ y ∧ y ≤ 900) (hz : -900 ≤ z ∧ z ≤ 900) (hD : 1 ≤ D ∧ D ≤ 240) :
  Calls Tryz.prog 74 #[ovv x y z D] w fun e w' => e = .returned (.int .i64 (ocZ x y z D)) ∧ Below w.heap.size w w' := by
 have hob := oc_bd hx hy hz hD
 have hnb : ∀ n : Int, -6000 ≤ n * D ∧ n * D ≤ 6000 → -6000 ≤ n ∧ n ≤ 6000 := fun n h => by
  constructor
  ·rcases Int.lt_or_le n (-6000) with h' | h'
   ·have := Int.mul_le_mul_of_nonneg_right (show n ≤ -6001 by omega) (show 0 ≤ D by omega)
    have := Int.mul_le_mul_of_nonneg_left hD.1 (show (0:Int) ≤ 6001 by decide)
    omega
   ·exact h'
  ·rcases Int.lt_or_le 6000 n with h' | h'
   ·have := Int.mul_le_mul_of_nonneg_right (show 6001 ≤ n by omega) (show 0 ≤ D by omega)
    have := Int.mul_le_mul_of_nonneg_left hD.1 (show (0:Int) ≤ 6001 by decide)
    omega
   ·exact h'
 have HAD := Lib.hid (fun n W (h : -6000 ≤ n * D ∧ n * D ≤ 6000) => radd_any x y z D n 0 0 1 (-1) W (by omega) (by omega) (by omega) (by omega) (by have := hnb n h; omega) (by decide) (by decide) (by decide) (.inr rfl))
 have HSG := Lib.hid (fun n W (hW : Tab W) (h : -6000 ≤ n * D ∧ n * D ≤ 6000) => refSign_any (x * 1 + -1 * n * D) (y * 1 + -1 * 0 * D) (z * 1 + -1 * 0 * D) (D * 1) W hW (by rw [Int.neg_mul, Int.one_mul, Int.neg_mul]; omega) (by omega) (by omega))
 have hse : ∀ n : Int, sgn (lgZ (x * 1 + -1 * n * D) (y * 1 + -1 * 0 * D) (z * 1 + -1 * 0 * D)) = sgn (lgZ (x - n * D) y z) := fun n => by
  rw [show x * 1 + -1 * n * D = x - n * D by rw [Int.neg_mul, Int.one_mul, Int.neg_mul]; omega, show y * 1 + -1 * 0 * D = y by omega, show z * 1 + -1 * 0 * D = z by omega]
 simp only [hse] at HSG
 obtain ⟨oc, hoc⟩ : ∃ o, o = ocZ x y z D := ⟨_, rfl⟩
 rw [← hoc] at hob ⊢
 have HOC := Lib.hid hoc
 have HD := Lib.hid hD
 have HOB := Lib.hid hob
 have HT := Lib.hid ht
 have HM0 := Lib.hid (show Hp w [(w.heap.size, 45, [.int .i64 x, .int .i64 y, .int .i64 z, .int .i64 D])] (w.alloc (.cells #[.int .i64 x, .int .i64 y, .int .i64 z, .int .i64 D] 45)) from (Hp.start w).new 45 [.int .i64 x, .int .i64 y, .int .i64 z, .int .i64 D])
 obtain ⟨p0, hp0⟩ : ∃ p, p = x * 1000000 := ⟨_, rfl⟩
 obtain ⟨p1, hp1⟩ : ∃ p, p = y * 1584963 := ⟨_, rfl⟩
 obtain ⟨p2, hp2⟩ : ∃ p, p = z * 2321928 := ⟨_, rfl⟩
 obtain ⟨s1, hs1⟩ : ∃ p, p = p0 + p1 := ⟨_, rfl⟩
 obtain ⟨s2, hs2⟩ : ∃ p, p = s1 + p2 := ⟨_, rfl⟩
 have hsb : s2.natAbs ≤ 4500000000 := by omega
 have hgb := guess_bd hsb hD
 obtain ⟨d1, hd1⟩ : ∃ p, p = s2.tdiv D := ⟨_, rfl⟩
 have hdb : d1.natAbs ≤ 4500000000 := by rw [hd1, Int.natAbs_tdiv]; exact Nat.le_trans (Nat.div_le_self _ _) hsb
 obtain ⟨n0, hn0⟩ : ∃ p, p = d1.tdiv 1000000 := ⟨_, rfl⟩
 have hnb0 : n0.natAbs ≤ 4500000000 := by rw [hn0, Int.natAbs_tdiv]; exact Nat.le_trans (Nat.div_le_self _ _) hdb
 rw [← hd1, ← hn0] at hgb
 have w0 : wrap64 (x * 1000000) = p0 := by rw [hp0]; exact IntWalk.wrap64_in _ ⟨by omega, by omega⟩
 have w1 : wrap64 (y * 1584963) = p1 := by rw [hp1]; exact IntWalk.wrap64_in _ ⟨by omega, by omega⟩
 have w2 : wrap64 (z * 2321928) = p2 := by rw [hp2]; exact IntWalk.wrap64_in _ ⟨by omega, by omega⟩
 have W0 := Lib.hid w0
 have W1 := Lib.hid w1
 have W2 := Lib.hid w2
 clear w0 w1 w2
 have W3 := Lib.hid (show wrap64 (p0 + p1) = s1 by rw [hs1]; exact IntWalk.wrap64_in _ ⟨by omega, by omega⟩)
 have W4 := Lib.hid (show wrap64 (s1 + p2) = s2 by rw [hs2]; exact IntWalk.wrap64_in _ ⟨by omega, by omega⟩)
 have W5 := Lib.hid (show wrap64 (s2.tdiv D) = d1 by rw [← hd1]; exact IntWalk.wrap64_in _ ⟨by omega, by omega⟩)
 have W6 := Lib.hid (show wrap64 (d1.tdiv 1000000) = n0 by rw [← hn0]; exact IntWalk.wrap64_in _ ⟨by omega, by omega⟩)
 have hdz : (D == 0) = false := by rw [beq_eq_false_iff_ne]; omega
 have hdn : ¬ (D = 0) := by omega
 have HGB := Lib.hid hgb
 have HNB := Lib.hid hnb
 clear hoc hob hnb hse ht hx hy hz hD hp0 hp1 hp2 hs1 hs2 hsb hgb hd1 hdb hn0 hnb0
 go_enter Tryz.func74, Tryz.ntmps74
 have w0 := W0.out
 have w1 := W1.out
 have w2 := W2.out
 have w3 := W3.out
 have w4 := W4.out
 have w5 := W5.out
 have w6 := W6.out
 go_wp2_with fail
 clear w0 w1 w2 w3 w4 w5
 go_loopw [3] (fun v wx => ∃ n : Int, v = .int .i64 n ∧ (-5000 ≤ n * D ∧ n * D ≤ 5000) ∧ Hp w [(w.heap.size, 45, [.int .i64 x, .int .i64 y, .int .i64 z, .int .i64 D])] wx) (fun v _ => (intOf v - oc).toNat)
 case atStart => exact ⟨n0, by first | rfl | rw [w6], HGB.out, HM0.out⟩
 case round =>
  clear HM0 w6 hdz hdn
  obtain ⟨n, rfl, hnD, hm⟩ := hrel
  have HM := Lib.hid hm
  have hn6 := HNB.out n ⟨by omega, by omega⟩
  clear hm
  obtain ⟨q0, q1, q2, q3⟩ := four_of (HM.out.at_ 0 rfl)
  have had := fun W => HAD.out (n) W ⟨by omega, by omega⟩
  have hsg := fun W hW => HSG.out (n) W hW ⟨by omega, by omega⟩
  obtain ⟨e0, he0⟩ : ∃ e, e = x * 1 + -1 * (n) * D := ⟨_, rfl⟩
  obtain ⟨e1, he1⟩ : ∃ e, e = y * 1 + -1 * 0 * D := ⟨_, rfl⟩
  obtain ⟨e2, he2⟩ : ∃ e, e = z * 1 + -1 * 0 * D := ⟨_, rfl⟩
  obtain ⟨e3, he3⟩ : ∃ e, e = D * 1 := ⟨_, rfl⟩
  rw [← he0, ← he1, ← he2, ← he3] at had hsg
  obtain ⟨sg, hsgn⟩ : ∃ s, s = sgn (lgZ (x - (n) * D) y z) := ⟨_, rfl⟩
  rw [← hsgn] at hsg
  have hlt := oc_lt (x := x) (y := y) (z := z) (D := D) (n := n) HD.out.1
  rw [← hsgn, ← HOC.out] at hlt
  have HA := Lib.hid had
  have HS := Lib.hid hsg
  have HL := Lib.hid hlt
  clear had hsg hlt he0 he1 he2 he3 hsgn
  have HND := Lib.hid hnD
  clear hnD
  go_wp2_with fail
  refine (HA.out _).mono ?_
  rintro e w3 ⟨rfl, hb⟩
  have HM3 := Lib.hid (HM.out.step hb)
  clear hb q0 q1 q2 q3
  go_wp2_with fail
  refine (HS.out _ (HT.out.below HM3.out.below)).mono ?_
  rintro e w4 ⟨rfl, hb⟩
  have HM4 := Lib.hid (HM3.out.step hb)
  clear hb
  by_cases hsl : sg < 0
  ·have hoc := HL.out.1 hsl
   have hw : wrap64 (n - 1) = n - 1 := IntWalk.wrap64_in _ ⟨by omega, by omega⟩
   have HW := Lib.hid hw
   have HBN := Lib.hid (show -5000 ≤ (n - 1) * D ∧ (n - 1) * D ≤ 5000 from by
    have h1 := Int.mul_le_mul_of_nonneg_right (show oc ≤ n - 1 by omega) (show 0 ≤ D by have := HD.out.1; omega)
    have h2 := HOB.out
    have h3 := HND.out
    have h4 := HD.out.1
    rw [Int.sub_mul] at h1 ⊢
    omega)
   have HO := Lib.hid hoc
   clear hw hoc
   go_wp2_with fail
   go_roundw
   case rel => exact ⟨n - 1, by first | rfl | rw [HW.out], HBN.out, HM4.out⟩
   case measure =>
    have ho := HO.out
    simp only [intOf]
    try rw [HW.out]
    clear HW
    omega
  ·have hno : n ≤ oc := by
    rcases Int.lt_or_le oc n with h | h
    ·exact absurd (HL.out.2 h) hsl
    ·exact h
   have HNO := Lib.hid hno
   clear hno
   go_wp2_with fail
   go_loopw [3] (fun v wx => ∃ n : Int, v = .int .i64 n ∧ ((-5000 ≤ n * D ∧ n * D ≤ 5000) ∧ n ≤ oc) ∧ Hp w [(w.heap.size, 45, [.int .i64 x, .int .i64 y, .int .i64 z, .int .i64 D])] wx) (fun v _ => (oc - intOf v).toNat)
   case atStart => exact ⟨n, rfl, ⟨HND.out, HNO.out⟩, HM4.out⟩
   case round =>
    clear HM HM3 HM4 HA HS HL HND HNO
    obtain ⟨n2, rfl, ⟨hnD, hno⟩, hm⟩ := hrel
    have HM := Lib.hid hm
    have hn6' := HNB.out n2 ⟨by omega, by omega⟩
    clear hm
    obtain ⟨q0, q1, q2, q3⟩ := four_of (HM.out.at_ 0 rfl)
    have hBB : -6000 ≤ (n2 + 1) * D ∧ (n2 + 1) * D ≤ 6000 := by have := HD.out; rw [Int.add_mul]; omega
    have hw : wrap64 (n2 + 1) = n2 + 1 := IntWalk.wrap64_in _ ⟨by omega, by omega⟩
    obtain ⟨n3, hn3⟩ : ∃ k, k = n2 + 1 := ⟨_, rfl⟩
    rw [← hn3] at hBB hw
    have had := fun W => HAD.out (n3) W hBB
    have hsg := fun W hW => HSG.out (n3) W hW hBB
    obtain ⟨e0, he0⟩ : ∃ e, e = x * 1 + -1 * (n3) * D := ⟨_, rfl⟩
    obtain ⟨e1, he1⟩ : ∃ e, e = y * 1 + -1 * 0 * D := ⟨_, rfl⟩
    obtain ⟨e2, he2⟩ : ∃ e, e = z * 1 + -1 * 0 * D := ⟨_, rfl⟩
    obtain ⟨e3, he3⟩ : ∃ e, e = D * 1 := ⟨_, rfl⟩
    rw [← he0, ← he1, ← he2, ← he3] at had hsg
    obtain ⟨sg, hsgn⟩ : ∃ s, s = sgn (lgZ (x - (n3) * D) y z) := ⟨_, rfl⟩
    rw [← hsgn] at hsg
    have hlt := oc_lt (x := x) (y := y) (z := z) (D := D) (n := n3) HD.out.1
    rw [← hsgn, ← HOC.out] at hlt
    have HA := Lib.hid had
    have HS := Lib.hid hsg
    have HL := Lib.hid hlt
    clear had hsg hlt he0 he1 he2 he3 hsgn
    have HND := Lib.hid hnD
    have HNO := Lib.hid hno
    have HN3 := Lib.hid hn3
    have HBB := Lib.hid hBB
    rw [hn3] at hw
    have hw' : wrap64 (n2 + 1) = n3 := by rw [hw, hn3]
    have HW := Lib.hid hw'
    clear hnD hno hw hBB hn3 hn6 hn6' hsl
    go_wp2_with fail
    refine (HA.out _).mono ?_
    rintro e w5 ⟨rfl, hb⟩
    have HM5 := Lib.hid (HM.out.step hb)
    clear hb q0 q1 q2 q3
    go_wp2_with fail
    refine (HS.out _ (HT.out.below HM5.out.below)).mono ?_
    rintro e w6 ⟨rfl, hb⟩
    have HM6 := Lib.hid (HM5.out.step hb)
    clear hb
    by_cases hsl : 0 ≤ sg
    ·have hle : n3 ≤ oc := by
      rcases Int.lt_or_le oc n3 with h | h
      ·have := HL.out.2 h; omega
      ·exact h
     have HLE := Lib.hid hle
     have HBN := Lib.hid (show -5000 ≤ n3 * D ∧ n3 * D ≤ 5000 from by
      have h1 := Int.mul_le_mul_of_nonneg_right hle (show 0 ≤ D by have := HD.out.1; omega)
      have h2 := HOB.out
      have h3 := HND.out
      have h4 := HD.out.1
      have h5 := HN3.out
      rw [h5, Int.add_mul] at h1 ⊢
      omega)
     clear hle
     go_wp2_with fail
     go_roundw
     case rel => exact ⟨n3, by first | rfl | rw [HW.out], ⟨HBN.out, HLE.out⟩, HM6.out⟩
     case measure =>
      have h5 := HN3.out
      have h6 := HLE.out
      simp only [intOf]
      try rw [HW.out]
      clear HW hw'
      omega
    ·have hge : n2 = oc := by
      have h1 := HL.out.1 (by omega)
      have h2 := HNO.out
      have h3 := HN3.out
      clear HW hw'
      omega
     subst hge
     go_wp2_with fail
     go_ret
     exact ⟨rfl, HM6.out.below⟩
end
section
open Go.RowKit
theorem red_bd {x y z D : Int} (hx : -6000 ≤ x ∧ x ≤ 6000) (hy : -6000 ≤ y ∧ y ≤ 6000) (hz : -6000 ≤ z ∧ z ≤ 6000) (hD : 1 ≤ D ∧ D ≤ 240) :
  (-31000 ≤ loZ x y z / (D * lgU) * D ∧ loZ x y z / (D * lgU) * D ≤ 31000) ∧ loZ x y z / (D * lgU) ≤ ocZ x y z D ∧ ocZ x y z D ≤ loZ x y z / (D * lgU) + 1 := by
 have hp : 0 < D * lgU := Int.mul_pos (by omega) (by decide)
 have h := lg_eq x y z
 have hlo : loZ x y z = lgZ x y z + (if 0 < y then 0 else y) + (if 0 < z then 0 else z) := rfl
 have hl1 : loZ x y z ≤ lgZ x y z := by rw [hlo]; split <;> split <;> omega
 have hl2 : lgZ x y z ≤ loZ x y z + 12000 := by rw [hlo]; split <;> split <;> omega
 have h1 : loZ x y z / (D * lgU) * (D * lgU) ≤ loZ x y z := Int.ediv_mul_le _ (Int.ne_of_gt hp)
 have h2 : loZ x y z < (loZ x y z / (D * lgU) + 1) * (D * lgU) := Int.lt_ediv_add_one_mul_self _ hp
 refine ⟨?_, Int.ediv_le_ediv hp hl1, ?_⟩
 ·rw [Int.add_mul, Int.one_mul] at h2
  rw [← Int.mul_assoc] at h1 h2
  obtain ⟨k, hk⟩ : ∃ k, k = loZ x y z / (D * lgU) * D := ⟨_, rfl⟩
  rw [← hk] at h1 h2 ⊢
  clear hlo hk hp
  unfold lgU lgT lgF at *
  omega
 ·have h3 : lgZ x y z ≤ loZ x y z + 1 * (D * lgU) := by
   have : (12000 : Int) ≤ D * lgU := by unfold lgU; omega
   omega
  have h4 := Int.ediv_le_ediv hp h3
  rw [Int.add_mul_ediv_right _ _ (Int.ne_of_gt hp)] at h4
  exact h4
noncomputable def rdR (p q a1 b1 a2 b2 oc : Int) : Value := if ivE [(p, q), (a1, b1), (a2, b2)] = 0 then .tuple #[szv p q a1 b1 a2 b2, .int .i64 oc, .int .i64 0] else .tuple #[szv 0 0 0 0 0 0, .int .i64 0, .int .i64 4]
set_option maxRecDepth 100000 in
set_option maxHeartbeats 8000000 in
theorem ireduce_any (a0 b0 a1 b1 a2 b2 x y z D : Int) (w : World) (ht : Tab w) (h : ivE [(a0, b0), (a1, b1), (a2, b2)] = 0) (hpr : prt [(a0, b0), (a1, b1), (a2, b2)] = some ([x, y, z], D)) :
  Calls Tryz.prog 88 #[szv a0 b0 a1 b1 a2 b2] w fun e w' => e = .returned (rdR (lowN (a0 * 1 - ocZ x y z D * b0) (b0 * 1)) (lowD (a0 * 1 - ocZ x y z D * b0) (b0 * 1)) a1 b1 a2 b2 (ocZ x y z D)) ∧ Below w.heap.size w w' := by
 obtain ⟨hright, _⟩ := ivE_cases h
 have r0 := hright (a0, b0) (by simp)
 have r1 := hright (a1, b1) (by simp)
 have r2 := hright (a2, b2) (by simp)
 have i64 : ∀ {a b : Int}, Right a b → I64 a ∧ I64 b := fun {a b} k => by
  obtain ⟨h1, h2, h3, h4, _⟩ := k
  exact ⟨⟨by omega, by omega⟩, by omega, by omega⟩
 have hc := fun W => icheck_any a0 b0 a1 b1 a2 b2 W (i64 r0).1 (i64 r0).2 (i64 r1).1 (i64 r1).2 (i64 r2).1 (i64 r2).2
 rw [h] at hc
 have hp := fun W => parts_any a0 b0 a1 b1 a2 b2 W (right_mild hright)
 unfold PaRet at hp
 rw [hpr] at hp
 obtain ⟨hD, hl⟩ := prt_num hpr (right_mild hright)
 have hx := hl x (by simp)
 have hy := hl y (by simp)
 have hz := hl z (by simp)
 have mx : M12 x := ⟨by omega, by omega⟩
 have my : M12 y := ⟨by omega, by omega⟩
 have mz : M12 z := ⟨by omega, by omega⟩
 have mD : M12 D := ⟨by omega, by omega⟩
 obtain ⟨⟨b1', b2'⟩, _, _, _, _⟩ := cen_bd mx my mz hD
 have hlo := lo_bd mx my mz
 obtain ⟨hrb, hq1, hq2⟩ := red_bd hx hy hz hD
 have hbn := fun W hW => bounds_any x y z W hW mx my mz
 have hof := fun W hW => of12 D W hW mD
 have hmu := fun W hW => mul_unit D W hW mD
 have hdm : ∀ W, Tab W → Calls Tryz.prog 98 #[.string (dec (loZ x y z)), .string (dec (D * lgU))] W fun e W' => e = .returned (.tuple #[.string (dec (loZ x y z / (D * lgU))), .string (dec (loZ x y z % (D * lgU))), .int .i64 0]) ∧ Below W.heap.size W W' := fun W hW =>
  divmod_pos _ _ W hW (Nat.le_trans (nDigits_pow (k := 46) (by decide) hlo) (by decide)) (Nat.le_trans (nDigits_pow (k := 40) (by decide) b2') (by decide)) b1'
 obtain ⟨q, hq⟩ : ∃ q, q = loZ x y z / (D * lgU) := ⟨_, rfl⟩
 rw [← hq] at hrb hq1 hq2
 simp only [← hq] at hdm
 have hqb : -31000 ≤ q ∧ q ≤ 31000 := by
  constructor
  ·rcases Int.lt_or_le q (-31000) with h' | h'
   ·have := Int.mul_le_mul_of_nonneg_right (show q ≤ -31001 by omega) (show 0 ≤ D by omega)
    have := Int.mul_le_mul_of_nonneg_left hD.1 (show (0:Int) ≤ 31001 by decide)
    omega
   ·exact h'
  ·rcases Int.lt_or_le 31000 q with h' | h'
   ·have := Int.mul_le_mul_of_nonneg_right (show 31001 ≤ q by omega) (show 0 ≤ D by omega)
    have := Int.mul_le_mul_of_nonneg_left hD.1 (show (0:Int) ≤ 31001 by decide)
    omega
   ·exact h'
 have hsl := fun W => small_yes q W (nDigits_pow (by decide) (by omega))
 have hlt := oc_lt (x := x) (y := y) (z := z) (D := D) (n := q + 1) hD.1
 obtain ⟨oc, hoc⟩ : ∃ oc, oc = ocZ x y z D := ⟨_, rfl⟩
 rw [← hoc] at hq1 hq2 hlt ⊢
 obtain ⟨m, hm⟩ : ∃ m, m = (q + 1) * D := ⟨_, rfl⟩
 have hmb : -32000 ≤ m ∧ m ≤ 32000 := by rw [hm, Int.add_mul]; omega
 obtain ⟨X0, hX0⟩ : ∃ X0, X0 = x - m := ⟨_, rfl⟩
 rw [← hm, ← hX0] at hlt
 have hsg := fun W hW => isign_all X0 y z W hW (by omega) (by omega) (by omega)
 obtain ⟨sg, hsgn⟩ : ∃ s, s = sgn (lgZ X0 y z) := ⟨_, rfl⟩
 rw [← hsgn] at hlt hsg
 have hro : Right oc 1 := ⟨by decide, by decide, by omega, by omega, by simp⟩
 have hfs := fun W => fSub_any a0 b0 oc 1 W r0 hro
 rw [fmake_low _ _ (show 0 < b0 * 1 by have := r0.1; omega)] at hfs
 obtain ⟨P, hP⟩ : ∃ P, P = lowN (a0 * 1 - oc * b0) (b0 * 1) := ⟨_, rfl⟩
 obtain ⟨Q, hQ⟩ : ∃ P, P = lowD (a0 * 1 - oc * b0) (b0 * 1) := ⟨_, rfl⟩
 rw [← hP, ← hQ] at hfs ⊢
 have hcase : (sg < 0 ∧ oc = q) ∨ (0 ≤ sg ∧ oc = q + 1) := by
  by_cases hs : sg < 0
  ·exact .inl ⟨hs, by have := hlt.1 hs; omega⟩
  ·refine .inr ⟨by omega, ?_⟩
   rcases Int.lt_or_le oc (q + 1) with h' | h'
   ·exact absurd (hlt.2 h') hs
   ·omega
 have HW1 := Lib.hid (show wrap64 (q + 1) = q + 1 from IntWalk.wrap64_in _ ⟨by omega, by omega⟩)
 obtain ⟨q1, hq1'⟩ : ∃ k, k = q + 1 := ⟨_, rfl⟩
 rw [← hq1'] at hm hcase
 have HWQ := Lib.hid (show wrap64 (q + 1) = q1 from hq1' ▸ HW1.out)
 have HWM := Lib.hid (show wrap64 (q1 * D) = m from by rw [← hm]; exact IntWalk.wrap64_in _ ⟨by omega, by omega⟩)
 have HWX := Lib.hid (show wrap64 (x - m) = X0 from by rw [← hX0]; exact IntWalk.wrap64_in _ ⟨by omega, by omega⟩)
 obtain ⟨lo, hlo'⟩ : ∃ a, a = dec (loZ x y z) := ⟨_, rfl⟩
 obtain ⟨hi, hhi'⟩ : ∃ a, a = dec (hiZ x y z) := ⟨_, rfl⟩
 obtain ⟨dd, hdd⟩ : ∃ a, a = dec (D * lgU) := ⟨_, rfl⟩
 obtain ⟨tr, htr⟩ : ∃ a, a = dec (loZ x y z % (D * lgU)) := ⟨_, rfl⟩
 obtain ⟨tq, htq⟩ : ∃ a, a = dec q := ⟨_, rfl⟩
 obtain ⟨tD, htD⟩ : ∃ a, a = dec D := ⟨_, rfl⟩
 rw [← hlo', ← hhi'] at hbn
 rw [← htD] at hof
 simp only [← htD, ← hdd] at hmu
 simp only [← hlo', ← hdd, ← htq, ← htr] at hdm
 simp only [← htq] at hsl
 have HC := Lib.hid hc
 have HP := Lib.hid hp
 have HBN := Lib.hid hbn
 have HOF := Lib.hid hof
 have HMU := Lib.hid hmu
 have HDM := Lib.hid hdm
 have HSL := Lib.hid hsl
 have HSG := Lib.hid hsg
 have HFS := Lib.hid hfs
 have HRI := Lib.hid (fun W (hr : Right P Q) => iresult_any P Q a1 b1 a2 b2 W (i64 hr).1 (i64 hr).2 (i64 r1).1 (i64 r1).2 (i64 r2).1 (i64 r2).2)
 have HCA := Lib.hid hcase
 have HT := Lib.hid ht
 have HNR := Lib.hid (show ¬ Right P Q → ivE [(P, Q), (a1, b1), (a2, b2)] ≠ 0 from fun hn he => hn ((ivE_cases he).1 (P, Q) (by simp)))
 have HM0 := Lib.hid (show Hp w [(w.heap.size, 36, [.int .i64 a0, .int .i64 b0, .int .i64 a1, .int .i64 b1, .int .i64 a2, .int .i64 b2]), (w.heap.size + 1, 36, [.int .i64 0, .int .i64 0, .int .i64 0, .int .i64 0, .int .i64 0, .int .i64 0])] ((w.alloc (.cells #[.int .i64 a0, .int .i64 b0, .int .i64 a1, .int .i64 b1, .int .i64 a2, .int .i64 b2] 36)).alloc (.cells #[.int .i64 0, .int .i64 0, .int .i64 0, .int .i64 0, .int .i64 0, .int .i64 0] 36)) from by
  have h := ((Hp.start w).new 36 [.int .i64 a0, .int .i64 b0, .int .i64 a1, .int .i64 b1, .int .i64 a2, .int .i64 b2]).new 36 [.int .i64 0, .int .i64 0, .int .i64 0, .int .i64 0, .int .i64 0, .int .i64 0]
  simp only [World.size_alloc] at h
  exact h)
 clear hc hp hbn hof hmu hdm hsl hsg hfs hlo' hhi' hdd htr htq htD hcase ht h hpr hright r0 r1 r2 i64 hD hl hx hy hz mx my mz mD b1' b2' hlo hrb hq1 hq2 hq hqb hlt hoc hm hmb hX0 hsgn hro hP hQ hq1' HW1
 go_enter Tryz.func88, Tryz.ntmps88
 go_wp2_with fail
 refine (HC.out _).mono ?_
 rintro e w1 ⟨rfl, hb⟩
 have HM1 := Lib.hid (HM0.out.step hb)
 obtain ⟨c0, c1, c2, c3, c4, c5⟩ := six_of (HM1.out.at_ 0 rfl)
 clear hb HM0
 go_wp2_with fail
 refine (HP.out _).mono ?_
 rintro e w2 ⟨rfl, hb⟩
 have HM2 := Lib.hid ((HM1.out.step hb).new 43 [.int .i64 x, .int .i64 y, .int .i64 z])
 clear hb HM1 c0 c1 c2 c3 c4 c5
 go_wp2_with fail
 refine (HBN.out _ (HT.out.below HM2.out.below)).mono ?_
 rintro e w3 ⟨rfl, hb⟩
 have HM3 := Lib.hid (HM2.out.step hb)
 clear hb HM2
 go_wp2_with fail
 refine (HOF.out _ (HT.out.below HM3.out.below)).mono ?_
 rintro e w4 ⟨rfl, hb⟩
 have HM4 := Lib.hid (HM3.out.step hb)
 clear hb HM3
 go_wp2_with fail
 refine (HMU.out _ (HT.out.below HM4.out.below)).mono ?_
 rintro e w5 ⟨rfl, hb⟩
 have HM5 := Lib.hid (HM4.out.step hb)
 clear hb HM4
 go_wp2_with fail
 refine (HDM.out _ (HT.out.below HM5.out.below)).mono ?_
 rintro e w6 ⟨rfl, hb⟩
 have HM6 := Lib.hid (HM5.out.step hb)
 clear hb HM5
 go_wp2_with fail
 refine (HSL.out _).mono ?_
 rintro e w7 ⟨rfl, hb⟩
 have HM7 := Lib.hid (HM6.out.step hb)
 obtain ⟨v0, v1, v2⟩ := three_of (HM7.out.at_ 2 rfl)
 have hg7 : w2.heap.size < w7.heap.size := (HM7.out.at_ 2 rfl).lt
 have wq := HWQ.out
 have wm := HWM.out
 have wx := HWX.out
 clear hb HM6
 go_upto_region 10 with fail
 have HM8 := Lib.hid (HM7.out.new 43 [.int .i64 X0, .int .i64 y, .int .i64 z])
 clear v0 v1 v2 hg7 wm wx HM7
 go_wp2_with fail
 refine (HSG.out _ (HT.out.below HM8.out.below)).mono ?_
 rintro e w9 ⟨rfl, hb⟩
 have HM9 := Lib.hid (HM8.out.step hb)
 clear hb HM8
 rcases HCA.out with ⟨hs, hoc⟩ | ⟨hs, hoc⟩
 ·subst hoc
  clear HCA
  obtain ⟨c0, c1, c2, c3, c4, c5⟩ := six_of (HM9.out.at_ 0 rfl)
  obtain ⟨d0, d1, d2, d3, d4, d5⟩ := six_of (HM9.out.at_ 1 rfl)
  obtain ⟨f0, f1, f2, f3, f4, f5⟩ := six_free (HM9.out.at_ 1 rfl)
  go_upto_region 14 with fail
  obtain ⟨WA, hWA⟩ : ∃ WA, WA = ((((((w9.setCell ⟨w.heap.size + 1, 0, none⟩ (.int .i64 a0)).setCell ⟨w.heap.size + 1, 1, none⟩ (.int .i64 b0)).setCell ⟨w.heap.size + 1, 2, none⟩ (.int .i64 a1)).setCell ⟨w.heap.size + 1, 3, none⟩ (.int .i64 b1)).setCell ⟨w.heap.size + 1, 4, none⟩ (.int .i64 a2)).setCell ⟨w.heap.size + 1, 5, none⟩ (.int .i64 b2)) := ⟨_, rfl⟩
  have hma := HM9.out.put6 1 rfl (.int .i64 a0) (.int .i64 b0) (.int .i64 a1) (.int .i64 b1) (.int .i64 a2) (.int .i64 b2)
  rw [← hWA] at hma ⊢
  have HMA := Lib.hid hma
  clear hWA hma c0 c1 c2 c3 c4 c5 d0 d1 d2 d3 d4 d5 f0 f1 f2 f3 f4 f5 HM9
  obtain ⟨c0, c1, c2, c3, c4, c5⟩ := six_of (HMA.out.at_ 0 rfl)
  by_cases hR : Right P Q
  ·have hfs := HFS.out
   rw [if_pos hR] at hfs
   unfold fRet at hfs
   have HF := Lib.hid hfs
   have HRR := Lib.hid (HRI.out · hR)
   clear hfs hR HNR
   go_wp2_with fail
   refine (HF.out _).mono ?_
   rintro e w10 ⟨rfl, hb⟩
   have HM10 := Lib.hid (HMA.out.step hb)
   clear hb c0 c1 c2 c3 c4 c5
   obtain ⟨d0, d1, d2, d3, d4, d5⟩ := six_of (HM10.out.at_ 1 rfl)
   obtain ⟨f0, f1, f2, f3, f4, f5⟩ := six_free (HM10.out.at_ 1 rfl)
   go_upto_region 17 with fail
   obtain ⟨WB, hWB⟩ : ∃ WB, WB = ((w10.setCell ⟨w.heap.size + 1, 0, none⟩ (.int .i64 P)).setCell ⟨w.heap.size + 1, 1, none⟩ (.int .i64 Q)) := ⟨_, rfl⟩
   have hmb := (HM10.out.put 1 rfl 0 (.int .i64 P)).put 1 (by rfl) 1 (.int .i64 Q)
   rw [← hWB] at hmb ⊢
   have HMB := Lib.hid hmb
   clear hWB hmb d0 d1 d2 d3 d4 d5 f0 f1 f2 f3 f4 f5
   by_cases hE : ivE [(P, Q), (a1, b1), (a2, b2)] = 0
   ·have hr := HRR.out
    unfold ivR at hr
    rw [if_pos hE] at hr
    have HR2 := Lib.hid hr
    have HRD := Lib.hid (show ∀ k, rdR P Q a1 b1 a2 b2 k = .tuple #[szv P Q a1 b1 a2 b2, .int .i64 k, .int .i64 0] from fun k => by unfold rdR; rw [if_pos hE])
    clear hr hE HRR
    obtain ⟨d0, d1, d2, d3, d4, d5⟩ := six_of (HMB.out.at_ 1 rfl)
    go_wp2_with fail
    refine (HR2.out _).mono ?_
    rintro e w11 ⟨rfl, hb⟩
    have HM11 := Lib.hid (HMB.out.step hb)
    clear hb d0 d1 d2 d3 d4 d5
    obtain ⟨d0, d1, d2, d3, d4, d5⟩ := six_of (HM11.out.at_ 1 rfl)
    obtain ⟨f0, f1, f2, f3, f4, f5⟩ := six_free (HM11.out.at_ 1 rfl)
    go_upto_region 20 with fail
    obtain ⟨WC, hWN⟩ : ∃ WN, WN = ((((((w11.setCell ⟨w.heap.size + 1, 0, none⟩ (.int .i64 P)).setCell ⟨w.heap.size + 1, 1, none⟩ (.int .i64 Q)).setCell ⟨w.heap.size + 1, 2, none⟩ (.int .i64 a1)).setCell ⟨w.heap.size + 1, 3, none⟩ (.int .i64 b1)).setCell ⟨w.heap.size + 1, 4, none⟩ (.int .i64 a2)).setCell ⟨w.heap.size + 1, 5, none⟩ (.int .i64 b2)) := ⟨_, rfl⟩
    have hmn := HM11.out.put6 1 rfl (.int .i64 P) (.int .i64 Q) (.int .i64 a1) (.int .i64 b1) (.int .i64 a2) (.int .i64 b2)
    rw [← hWN] at hmn ⊢
    have HM12 := Lib.hid hmn
    clear hWN hmn d0 d1 d2 d3 d4 d5 f0 f1 f2 f3 f4 f5
    obtain ⟨d0, d1, d2, d3, d4, d5⟩ := six_of (HM12.out.at_ 1 rfl)
    obtain ⟨f0, f1, f2, f3, f4, f5⟩ := six_free (HM12.out.at_ 1 rfl)
    go_wp2
    obtain ⟨WZ, hWZ⟩ : ∃ WZ, WZ = ((((((WC.setCell ⟨w.heap.size + 1, 0, none⟩ (.int .i64 P)).setCell ⟨w.heap.size + 1, 1, none⟩ (.int .i64 Q)).setCell ⟨w.heap.size + 1, 2, none⟩ (.int .i64 a1)).setCell ⟨w.heap.size + 1, 3, none⟩ (.int .i64 b1)).setCell ⟨w.heap.size + 1, 4, none⟩ (.int .i64 a2)).setCell ⟨w.heap.size + 1, 5, none⟩ (.int .i64 b2)) := ⟨_, rfl⟩
    have hz := HM12.out.put6 1 rfl (.int .i64 P) (.int .i64 Q) (.int .i64 a1) (.int .i64 b1) (.int .i64 a2) (.int .i64 b2)
    rw [← hWZ] at hz ⊢
    obtain ⟨g0, g1, g2, g3, g4, g5⟩ := six_of (hz.at_ 1 rfl)
    exact bodyPost_ret (v := .tuple #[szv P Q a1 b1 a2 b2, .int .i64 oc, .int .i64 0]) (by simp [g0, g1, g2, g3, g4, g5, results, Tryz.results88, go_sem]) rfl ⟨by rw [HRD.out], hz.below⟩
   ·have hr := HRR.out
    unfold ivR at hr
    rw [if_neg hE] at hr
    have HR2 := Lib.hid hr
    have HRD := Lib.hid (show ∀ k, rdR P Q a1 b1 a2 b2 k = .tuple #[szv 0 0 0 0 0 0, .int .i64 0, .int .i64 4] from fun k => by unfold rdR; rw [if_neg hE])
    clear hr hE HRR
    obtain ⟨d0, d1, d2, d3, d4, d5⟩ := six_of (HMB.out.at_ 1 rfl)
    go_wp2_with fail
    refine (HR2.out _).mono ?_
    rintro e w11 ⟨rfl, hb⟩
    have HM11 := Lib.hid (HMB.out.step hb)
    clear hb d0 d1 d2 d3 d4 d5
    obtain ⟨d0, d1, d2, d3, d4, d5⟩ := six_of (HM11.out.at_ 1 rfl)
    obtain ⟨f0, f1, f2, f3, f4, f5⟩ := six_free (HM11.out.at_ 1 rfl)
    go_upto_region 19 with fail
    obtain ⟨WC, hWN⟩ : ∃ WN, WN = ((((((w11.setCell ⟨w.heap.size + 1, 0, none⟩ (.int .i64 0)).setCell ⟨w.heap.size + 1, 1, none⟩ (.int .i64 0)).setCell ⟨w.heap.size + 1, 2, none⟩ (.int .i64 0)).setCell ⟨w.heap.size + 1, 3, none⟩ (.int .i64 0)).setCell ⟨w.heap.size + 1, 4, none⟩ (.int .i64 0)).setCell ⟨w.heap.size + 1, 5, none⟩ (.int .i64 0)) := ⟨_, rfl⟩
    have hmn := HM11.out.put6 1 rfl (.int .i64 0) (.int .i64 0) (.int .i64 0) (.int .i64 0) (.int .i64 0) (.int .i64 0)
    rw [← hWN] at hmn ⊢
    have HM12 := Lib.hid hmn
    clear hWN hmn d0 d1 d2 d3 d4 d5 f0 f1 f2 f3 f4 f5
    obtain ⟨d0, d1, d2, d3, d4, d5⟩ := six_of (HM12.out.at_ 1 rfl)
    obtain ⟨f0, f1, f2, f3, f4, f5⟩ := six_free (HM12.out.at_ 1 rfl)
    go_wp2
    obtain ⟨WZ, hWZ⟩ : ∃ WZ, WZ = ((((((WC.setCell ⟨w.heap.size + 1, 0, none⟩ (.int .i64 0)).setCell ⟨w.heap.size + 1, 1, none⟩ (.int .i64 0)).setCell ⟨w.heap.size + 1, 2, none⟩ (.int .i64 0)).setCell ⟨w.heap.size + 1, 3, none⟩ (.int .i64 0)).setCell ⟨w.heap.size + 1, 4, none⟩ (.int .i64 0)).setCell ⟨w.heap.size + 1, 5, none⟩ (.int .i64 0)) := ⟨_, rfl⟩
    have hz := HM12.out.put6 1 rfl (.int .i64 0) (.int .i64 0) (.int .i64 0) (.int .i64 0) (.int .i64 0) (.int .i64 0)
    rw [← hWZ] at hz ⊢
    obtain ⟨g0, g1, g2, g3, g4, g5⟩ := six_of (hz.at_ 1 rfl)
    exact bodyPost_ret (v := .tuple #[szv 0 0 0 0 0 0, .int .i64 0, .int .i64 4]) (by simp [g0, g1, g2, g3, g4, g5, results, Tryz.results88, go_sem]) rfl ⟨by rw [HRD.out], hz.below⟩
  ·have hfs := HFS.out
   rw [if_neg hR] at hfs
   unfold fRet at hfs
   have HF := Lib.hid hfs
   have HRD := Lib.hid (show ∀ k, rdR P Q a1 b1 a2 b2 k = .tuple #[szv 0 0 0 0 0 0, .int .i64 0, .int .i64 4] from fun k => by unfold rdR; rw [if_neg (HNR.out hR)])
   clear hfs hR HNR
   go_wp2_with fail
   refine (HF.out _).mono ?_
   rintro e w10 ⟨rfl, hb⟩
   have HM10 := Lib.hid (HMA.out.step hb)
   clear hb c0 c1 c2 c3 c4 c5
   obtain ⟨d0, d1, d2, d3, d4, d5⟩ := six_of (HM10.out.at_ 1 rfl)
   obtain ⟨f0, f1, f2, f3, f4, f5⟩ := six_free (HM10.out.at_ 1 rfl)
   go_upto_region 16 with fail
   obtain ⟨WB, hWB⟩ : ∃ WB, WB = ((w10.setCell ⟨w.heap.size + 1, 0, none⟩ (.int .i64 0)).setCell ⟨w.heap.size + 1, 1, none⟩ (.int .i64 0)) := ⟨_, rfl⟩
   have hmb := (HM10.out.put 1 rfl 0 (.int .i64 0)).put 1 (by rfl) 1 (.int .i64 0)
   rw [← hWB] at hmb ⊢
   have HMB := Lib.hid hmb
   clear hWB hmb d0 d1 d2 d3 d4 d5 f0 f1 f2 f3 f4 f5
   obtain ⟨d0, d1, d2, d3, d4, d5⟩ := six_of (HMB.out.at_ 1 rfl)
   obtain ⟨f0, f1, f2, f3, f4, f5⟩ := six_free (HMB.out.at_ 1 rfl)
   go_wp2
   obtain ⟨WZ, hWZ⟩ : ∃ WZ, WZ = ((((((WB.setCell ⟨w.heap.size + 1, 0, none⟩ (.int .i64 0)).setCell ⟨w.heap.size + 1, 1, none⟩ (.int .i64 0)).setCell ⟨w.heap.size + 1, 2, none⟩ (.int .i64 0)).setCell ⟨w.heap.size + 1, 3, none⟩ (.int .i64 0)).setCell ⟨w.heap.size + 1, 4, none⟩ (.int .i64 0)).setCell ⟨w.heap.size + 1, 5, none⟩ (.int .i64 0)) := ⟨_, rfl⟩
   have hz := HMB.out.put6 1 rfl (.int .i64 0) (.int .i64 0) (.int .i64 0) (.int .i64 0) (.int .i64 0) (.int .i64 0)
   rw [← hWZ] at hz ⊢
   obtain ⟨g0, g1, g2, g3, g4, g5⟩ := six_of (hz.at_ 1 rfl)
   exact bodyPost_ret (v := .tuple #[szv 0 0 0 0 0 0, .int .i64 0, .int .i64 4]) (by simp [g0, g1, g2, g3, g4, g5, results, Tryz.results88, go_sem]) rfl ⟨by rw [HRD.out], hz.below⟩
 ·subst hoc
  clear HCA
  obtain ⟨c0, c1, c2, c3, c4, c5⟩ := six_of (HM9.out.at_ 0 rfl)
  obtain ⟨d0, d1, d2, d3, d4, d5⟩ := six_of (HM9.out.at_ 1 rfl)
  obtain ⟨f0, f1, f2, f3, f4, f5⟩ := six_free (HM9.out.at_ 1 rfl)
  go_upto_region 14 with fail
  obtain ⟨WA, hWA⟩ : ∃ WA, WA = ((((((w9.setCell ⟨w.heap.size + 1, 0, none⟩ (.int .i64 a0)).setCell ⟨w.heap.size + 1, 1, none⟩ (.int .i64 b0)).setCell ⟨w.heap.size + 1, 2, none⟩ (.int .i64 a1)).setCell ⟨w.heap.size + 1, 3, none⟩ (.int .i64 b1)).setCell ⟨w.heap.size + 1, 4, none⟩ (.int .i64 a2)).setCell ⟨w.heap.size + 1, 5, none⟩ (.int .i64 b2)) := ⟨_, rfl⟩
  have hma := HM9.out.put6 1 rfl (.int .i64 a0) (.int .i64 b0) (.int .i64 a1) (.int .i64 b1) (.int .i64 a2) (.int .i64 b2)
  rw [← hWA] at hma ⊢
  have HMA := Lib.hid hma
  clear hWA hma c0 c1 c2 c3 c4 c5 d0 d1 d2 d3 d4 d5 f0 f1 f2 f3 f4 f5 HM9
  obtain ⟨c0, c1, c2, c3, c4, c5⟩ := six_of (HMA.out.at_ 0 rfl)
  by_cases hR : Right P Q
  ·have hfs := HFS.out
   rw [if_pos hR] at hfs
   unfold fRet at hfs
   have HF := Lib.hid hfs
   have HRR := Lib.hid (HRI.out · hR)
   clear hfs hR HNR
   go_wp2_with fail
   refine (HF.out _).mono ?_
   rintro e w10 ⟨rfl, hb⟩
   have HM10 := Lib.hid (HMA.out.step hb)
   clear hb c0 c1 c2 c3 c4 c5
   obtain ⟨d0, d1, d2, d3, d4, d5⟩ := six_of (HM10.out.at_ 1 rfl)
   obtain ⟨f0, f1, f2, f3, f4, f5⟩ := six_free (HM10.out.at_ 1 rfl)
   go_upto_region 17 with fail
   obtain ⟨WB, hWB⟩ : ∃ WB, WB = ((w10.setCell ⟨w.heap.size + 1, 0, none⟩ (.int .i64 P)).setCell ⟨w.heap.size + 1, 1, none⟩ (.int .i64 Q)) := ⟨_, rfl⟩
   have hmb := (HM10.out.put 1 rfl 0 (.int .i64 P)).put 1 (by rfl) 1 (.int .i64 Q)
   rw [← hWB] at hmb ⊢
   have HMB := Lib.hid hmb
   clear hWB hmb d0 d1 d2 d3 d4 d5 f0 f1 f2 f3 f4 f5
   by_cases hE : ivE [(P, Q), (a1, b1), (a2, b2)] = 0
   ·have hr := HRR.out
    unfold ivR at hr
    rw [if_pos hE] at hr
    have HR2 := Lib.hid hr
    have HRD := Lib.hid (show ∀ k, rdR P Q a1 b1 a2 b2 k = .tuple #[szv P Q a1 b1 a2 b2, .int .i64 k, .int .i64 0] from fun k => by unfold rdR; rw [if_pos hE])
    clear hr hE HRR
    obtain ⟨d0, d1, d2, d3, d4, d5⟩ := six_of (HMB.out.at_ 1 rfl)
    go_wp2_with fail
    refine (HR2.out _).mono ?_
    rintro e w11 ⟨rfl, hb⟩
    have HM11 := Lib.hid (HMB.out.step hb)
    clear hb d0 d1 d2 d3 d4 d5
    obtain ⟨d0, d1, d2, d3, d4, d5⟩ := six_of (HM11.out.at_ 1 rfl)
    obtain ⟨f0, f1, f2, f3, f4, f5⟩ := six_free (HM11.out.at_ 1 rfl)
    go_upto_region 20 with fail
    obtain ⟨WC, hWN⟩ : ∃ WN, WN = ((((((w11.setCell ⟨w.heap.size + 1, 0, none⟩ (.int .i64 P)).setCell ⟨w.heap.size + 1, 1, none⟩ (.int .i64 Q)).setCell ⟨w.heap.size + 1, 2, none⟩ (.int .i64 a1)).setCell ⟨w.heap.size + 1, 3, none⟩ (.int .i64 b1)).setCell ⟨w.heap.size + 1, 4, none⟩ (.int .i64 a2)).setCell ⟨w.heap.size + 1, 5, none⟩ (.int .i64 b2)) := ⟨_, rfl⟩
    have hmn := HM11.out.put6 1 rfl (.int .i64 P) (.int .i64 Q) (.int .i64 a1) (.int .i64 b1) (.int .i64 a2) (.int .i64 b2)
    rw [← hWN] at hmn ⊢
    have HM12 := Lib.hid hmn
    clear hWN hmn d0 d1 d2 d3 d4 d5 f0 f1 f2 f3 f4 f5
    obtain ⟨d0, d1, d2, d3, d4, d5⟩ := six_of (HM12.out.at_ 1 rfl)
    obtain ⟨f0, f1, f2, f3, f4, f5⟩ := six_free (HM12.out.at_ 1 rfl)
    go_wp2
    obtain ⟨WZ, hWZ⟩ : ∃ WZ, WZ = ((((((WC.setCell ⟨w.heap.size + 1, 0, none⟩ (.int .i64 P)).setCell ⟨w.heap.size + 1, 1, none⟩ (.int .i64 Q)).setCell ⟨w.heap.size + 1, 2, none⟩ (.int .i64 a1)).setCell ⟨w.heap.size + 1, 3, none⟩ (.int .i64 b1)).setCell ⟨w.heap.size + 1, 4, none⟩ (.int .i64 a2)).setCell ⟨w.heap.size + 1, 5, none⟩ (.int .i64 b2)) := ⟨_, rfl⟩
    have hz := HM12.out.put6 1 rfl (.int .i64 P) (.int .i64 Q) (.int .i64 a1) (.int .i64 b1) (.int .i64 a2) (.int .i64 b2)
    rw [← hWZ] at hz ⊢
    obtain ⟨g0, g1, g2, g3, g4, g5⟩ := six_of (hz.at_ 1 rfl)
    exact bodyPost_ret (v := .tuple #[szv P Q a1 b1 a2 b2, .int .i64 oc, .int .i64 0]) (by simp [g0, g1, g2, g3, g4, g5, results, Tryz.results88, go_sem]) rfl ⟨by rw [HRD.out], hz.below⟩
   ·have hr := HRR.out
    unfold ivR at hr
    rw [if_neg hE] at hr
    have HR2 := Lib.hid hr
    have HRD := Lib.hid (show ∀ k, rdR P Q a1 b1 a2 b2 k = .tuple #[szv 0 0 0 0 0 0, .int .i64 0, .int .i64 4] from fun k => by unfold rdR; rw [if_neg hE])
    clear hr hE HRR
    obtain ⟨d0, d1, d2, d3, d4, d5⟩ := six_of (HMB.out.at_ 1 rfl)
    go_wp2_with fail
    refine (HR2.out _).mono ?_
    rintro e w11 ⟨rfl, hb⟩
    have HM11 := Lib.hid (HMB.out.step hb)
    clear hb d0 d1 d2 d3 d4 d5
    obtain ⟨d0, d1, d2, d3, d4, d5⟩ := six_of (HM11.out.at_ 1 rfl)
    obtain ⟨f0, f1, f2, f3, f4, f5⟩ := six_free (HM11.out.at_ 1 rfl)
    go_upto_region 19 with fail
    obtain ⟨WC, hWN⟩ : ∃ WN, WN = ((((((w11.setCell ⟨w.heap.size + 1, 0, none⟩ (.int .i64 0)).setCell ⟨w.heap.size + 1, 1, none⟩ (.int .i64 0)).setCell ⟨w.heap.size + 1, 2, none⟩ (.int .i64 0)).setCell ⟨w.heap.size + 1, 3, none⟩ (.int .i64 0)).setCell ⟨w.heap.size + 1, 4, none⟩ (.int .i64 0)).setCell ⟨w.heap.size + 1, 5, none⟩ (.int .i64 0)) := ⟨_, rfl⟩
    have hmn := HM11.out.put6 1 rfl (.int .i64 0) (.int .i64 0) (.int .i64 0) (.int .i64 0) (.int .i64 0) (.int .i64 0)
    rw [← hWN] at hmn ⊢
    have HM12 := Lib.hid hmn
    clear hWN hmn d0 d1 d2 d3 d4 d5 f0 f1 f2 f3 f4 f5
    obtain ⟨d0, d1, d2, d3, d4, d5⟩ := six_of (HM12.out.at_ 1 rfl)
    obtain ⟨f0, f1, f2, f3, f4, f5⟩ := six_free (HM12.out.at_ 1 rfl)
    go_wp2
    obtain ⟨WZ, hWZ⟩ : ∃ WZ, WZ = ((((((WC.setCell ⟨w.heap.size + 1, 0, none⟩ (.int .i64 0)).setCell ⟨w.heap.size + 1, 1, none⟩ (.int .i64 0)).setCell ⟨w.heap.size + 1, 2, none⟩ (.int .i64 0)).setCell ⟨w.heap.size + 1, 3, none⟩ (.int .i64 0)).setCell ⟨w.heap.size + 1, 4, none⟩ (.int .i64 0)).setCell ⟨w.heap.size + 1, 5, none⟩ (.int .i64 0)) := ⟨_, rfl⟩
    have hz := HM12.out.put6 1 rfl (.int .i64 0) (.int .i64 0) (.int .i64 0) (.int .i64 0) (.int .i64 0) (.int .i64 0)
    rw [← hWZ] at hz ⊢
    obtain ⟨g0, g1, g2, g3, g4, g5⟩ := six_of (hz.at_ 1 rfl)
    exact bodyPost_ret (v := .tuple #[szv 0 0 0 0 0 0, .int .i64 0, .int .i64 4]) (by simp [g0, g1, g2, g3, g4, g5, results, Tryz.results88, go_sem]) rfl ⟨by rw [HRD.out], hz.below⟩
  ·have hfs := HFS.out
   rw [if_neg hR] at hfs
   unfold fRet at hfs
   have HF := Lib.hid hfs
   have HRD := Lib.hid (show ∀ k, rdR P Q a1 b1 a2 b2 k = .tuple #[szv 0 0 0 0 0 0, .int .i64 0, .int .i64 4] from fun k => by unfold rdR; rw [if_neg (HNR.out hR)])
   clear hfs hR HNR
   go_wp2_with fail
   refine (HF.out _).mono ?_
   rintro e w10 ⟨rfl, hb⟩
   have HM10 := Lib.hid (HMA.out.step hb)
   clear hb c0 c1 c2 c3 c4 c5
   obtain ⟨d0, d1, d2, d3, d4, d5⟩ := six_of (HM10.out.at_ 1 rfl)
   obtain ⟨f0, f1, f2, f3, f4, f5⟩ := six_free (HM10.out.at_ 1 rfl)
   go_upto_region 16 with fail
   obtain ⟨WB, hWB⟩ : ∃ WB, WB = ((w10.setCell ⟨w.heap.size + 1, 0, none⟩ (.int .i64 0)).setCell ⟨w.heap.size + 1, 1, none⟩ (.int .i64 0)) := ⟨_, rfl⟩
   have hmb := (HM10.out.put 1 rfl 0 (.int .i64 0)).put 1 (by rfl) 1 (.int .i64 0)
   rw [← hWB] at hmb ⊢
   have HMB := Lib.hid hmb
   clear hWB hmb d0 d1 d2 d3 d4 d5 f0 f1 f2 f3 f4 f5
   obtain ⟨d0, d1, d2, d3, d4, d5⟩ := six_of (HMB.out.at_ 1 rfl)
   obtain ⟨f0, f1, f2, f3, f4, f5⟩ := six_free (HMB.out.at_ 1 rfl)
   go_wp2
   obtain ⟨WZ, hWZ⟩ : ∃ WZ, WZ = ((((((WB.setCell ⟨w.heap.size + 1, 0, none⟩ (.int .i64 0)).setCell ⟨w.heap.size + 1, 1, none⟩ (.int .i64 0)).setCell ⟨w.heap.size + 1, 2, none⟩ (.int .i64 0)).setCell ⟨w.heap.size + 1, 3, none⟩ (.int .i64 0)).setCell ⟨w.heap.size + 1, 4, none⟩ (.int .i64 0)).setCell ⟨w.heap.size + 1, 5, none⟩ (.int .i64 0)) := ⟨_, rfl⟩
   have hz := HMB.out.put6 1 rfl (.int .i64 0) (.int .i64 0) (.int .i64 0) (.int .i64 0) (.int .i64 0) (.int .i64 0)
   rw [← hWZ] at hz ⊢
   obtain ⟨g0, g1, g2, g3, g4, g5⟩ := six_of (hz.at_ 1 rfl)
   exact bodyPost_ret (v := .tuple #[szv 0 0 0 0 0 0, .int .i64 0, .int .i64 4]) (by simp [g0, g1, g2, g3, g4, g5, results, Tryz.results88, go_sem]) rfl ⟨by rw [HRD.out], hz.below⟩
end
section
open Go.RowKit
theorem ediv_same {p q r s : Int} (hq : 0 < q) (hs : 0 < s) (h : p * s = r * q) : p / q = r / s :=
 Int.le_antisymm (ediv_cross hq hs (Int.le_of_eq h)) (ediv_cross hs hq (Int.le_of_eq h.symm))
end
section
open Go.RowKit
theorem rd_low {n M : Int} (hM : 0 < M) : lowN n M * M = n * lowD n M := by
 obtain ⟨g, hg, e1, e2, _, _⟩ := low_mul n M hM
 have e3 : lowN n M * M = lowN n M * (g * lowD n M) := by rw [e2]
 have e4 : n * lowD n M = (g * lowN n M) * lowD n M := by rw [e1]
 rw [e3, e4]
 simp only [Int.mul_left_comm, Int.mul_assoc]
end
end Go.Proofs.YtlmheeommpbimaaGreatDoor
namespace Go.Proofs.YtlmheeommpbimaaGreatDoor
open Go.RowKit
theorem t_right_one {x : Int} (h : -1000000 ≤ x ∧ x ≤ 1000000) : Right x 1 := ⟨by decide, by decide, h.1, h.2, by simp⟩
theorem t_prt_ones {x y z : Int} (hx : -6000 ≤ x ∧ x ≤ 6000) (hy : -6000 ≤ y ∧ y ≤ 6000) (hz : -6000 ≤ z ∧ z ≤ 6000) : prt [(x, 1), (y, 1), (z, 1)] = some ([x, y, z], 1) := by
 have hd : prD [(x, 1), (y, 1), (z, 1)] 1 = some 1 := by simp [prD, lcmA]
 unfold prt
 rw [hd]
 have e : ∀ k : Int, k * ((1 : Int) / 1) = k := fun k => by simp
 simp only [prN, e]
 rw [if_neg (by omega), if_neg (by omega), if_neg (by omega)]
 rfl
theorem t_ivR_ones {x y z : Int} (hx : -6000 ≤ x ∧ x ≤ 6000) (hy : -6000 ≤ y ∧ y ≤ 6000) (hz : -6000 ≤ z ∧ z ≤ 6000) : ivR x 1 y 1 z 1 = .tuple #[szv x 1 y 1 z 1, .int .i64 0] :=
 by
 unfold ivR
 rw [if_pos]
 exact ivE_ok (fun q hq => by
  simp only [List.mem_cons, List.not_mem_nil, or_false] at hq
  rcases hq with rfl | rfl | rfl <;> exact t_right_one (by dsimp only; omega)) (by rw [t_prt_ones hx hy hz]; exact fun h => by cases h)
theorem t_low_one (x : Int) : lowN x 1 = x ∧ lowD x 1 = 1 := by
 unfold lowN lowD
 simp
abbrev szD (x y z d : Int) : Value := szv (lowN x d) (lowD x d) (lowN y d) (lowD y d) (lowN z d) (lowD z d)
def Bx (x y z : Int) : Prop := (-6000 ≤ x ∧ x ≤ 6000) ∧ (-6000 ≤ y ∧ y ≤ 6000) ∧ (-6000 ≤ z ∧ z ≤ 6000)
theorem szD_ok {x y z d : Int} (hd : 1 ≤ d ∧ d ≤ 240) (h : Bx x y z) : ivE [(lowN x d, lowD x d), (lowN y d, lowD y d), (lowN z d, lowD z d)] = 0 := by
 obtain ⟨hr, X, Y, Z, D, hp, _⟩ := plan_prt hd h.1 h.2.1 h.2.2
 exact ivE_ok hr (by rw [hp]; simp)
theorem ivR_szD {x y z d : Int} (hd : 1 ≤ d ∧ d ≤ 240) (h : Bx x y z) : ivR (lowN x d) (lowD x d) (lowN y d) (lowD y d) (lowN z d) (lowD z d) = .tuple #[szD x y z d, .int .i64 0] := by
 unfold ivR; rw [if_pos (szD_ok hd h)]
theorem lowD_pos {n d : Int} (hd : 0 < d) : 0 < lowD n d := by
 obtain ⟨_, _, _, _, h, _⟩ := low_mul n d hd
 exact h
theorem low_sub {x u d : Int} (hd : 0 < d) : lowN (lowN x d * lowD u d - lowN u d * lowD x d) (lowD x d * lowD u d) = lowN (x - u) d ∧ lowD (lowN x d * lowD u d - lowN u d * lowD x d) (lowD x d * lowD u d) = lowD (x - u) d := by
 refine low_cross (Int.mul_pos (lowD_pos hd) (lowD_pos hd)) hd ?_
 have h1 := rd_low (n := x) hd
 have h2 := rd_low (n := u) hd
 rw [Int.sub_mul, Int.sub_mul, Int.mul_right_comm (lowN x d), h1, Int.mul_right_comm (lowN u d), h2]
 rw [Int.mul_assoc x, Int.mul_assoc u, Int.mul_comm (lowD u d) (lowD x d)]
theorem low_add {x u d : Int} (hd : 0 < d) : lowN (lowN x d * lowD u d + lowN u d * lowD x d) (lowD x d * lowD u d) = lowN (x + u) d ∧ lowD (lowN x d * lowD u d + lowN u d * lowD x d) (lowD x d * lowD u d) = lowD (x + u) d := by
 refine low_cross (Int.mul_pos (lowD_pos hd) (lowD_pos hd)) hd ?_
 have h1 := rd_low (n := x) hd
 have h2 := rd_low (n := u) hd
 rw [Int.add_mul, Int.add_mul, Int.mul_right_comm (lowN x d), h1, Int.mul_right_comm (lowN u d), h2]
 rw [Int.mul_assoc x, Int.mul_assoc u, Int.mul_comm (lowD u d) (lowD x d)]
theorem low_scale {a p d : Int} (hd : 0 < d) : lowN (a * lowN p d) (1 * lowD p d) = lowN (a * p) d ∧ lowD (a * lowN p d) (1 * lowD p d) = lowD (a * p) d := by
 refine low_cross (by rw [Int.one_mul]; exact lowD_pos hd) hd ?_
 have h1 := rd_low (n := p) hd
 rw [Int.mul_assoc, h1, Int.one_mul, Int.mul_assoc]
section
variable (x y z u v t d : Int) (w : World) (hd : 1 ≤ d ∧ d ≤ 240)
include hd
theorem tsub_any (h1 : Bx x y z) (h2 : Bx u v t) (h3 : Bx (x - u) (y - v) (z - t)) :
  Calls Tryz.prog 46 #[szD x y z d, szD u v t d] w fun e w' => e = .returned (.tuple #[szD (x - u) (y - v) (z - t) d, .int .i64 0]) ∧ Below w.heap.size w w' := by
 refine (iSub_any _ _ _ _ _ _ _ _ _ _ _ _ w (szD_ok hd h1) (szD_ok hd h2)).mono ?_
 rintro e w' ⟨he, hb⟩
 refine ⟨he.trans ?_, hb⟩
 have hp : 0 < d := by omega
 rw [(low_sub hp).1, (low_sub hp).2, (low_sub hp).1, (low_sub hp).2, (low_sub hp).1, (low_sub hp).2, ivR_szD hd h3]
theorem tadd_any (h1 : Bx x y z) (h2 : Bx u v t) (h3 : Bx (x + u) (y + v) (z + t)) :
  Calls Tryz.prog 28 #[szD x y z d, szD u v t d] w fun e w' => e = .returned (.tuple #[szD (x + u) (y + v) (z + t) d, .int .i64 0]) ∧ Below w.heap.size w w' := by
 refine (iAdd_any _ _ _ _ _ _ _ _ _ _ _ _ w (szD_ok hd h1) (szD_ok hd h2)).mono ?_
 rintro e w' ⟨he, hb⟩
 refine ⟨he.trans ?_, hb⟩
 have hp : 0 < d := by omega
 rw [(low_add hp).1, (low_add hp).2, (low_add hp).1, (low_add hp).2, (low_add hp).1, (low_add hp).2, ivR_szD hd h3]
theorem tscale_any (a b c p : Int) (h1 : Bx a b c) (h3 : Bx (a * p) (b * p) (c * p)) (hr : Right (lowN p d) (lowD p d)) :
  Calls Tryz.prog 26 #[szv a 1 b 1 c 1, .agg #[.int .i64 (lowN p d), .int .i64 (lowD p d)]] w fun e w' => e = .returned (.tuple #[szD (a * p) (b * p) (c * p) d, .int .i64 0]) ∧ Below w.heap.size w w' := by
 have h0 : ivE [(a, 1), (b, 1), (c, 1)] = 0 := by
  have := szD_ok (d := 1) ⟨by decide, by decide⟩ h1
  rwa [(t_low_one a).1, (t_low_one a).2, (t_low_one b).1, (t_low_one b).2, (t_low_one c).1, (t_low_one c).2] at this
 refine (iScale_any _ _ _ _ _ _ _ _ w h0 hr).mono ?_
 rintro e w' ⟨he, hb⟩
 refine ⟨he.trans ?_, hb⟩
 have hp : 0 < d := by omega
 rw [(low_scale hp).1, (low_scale hp).2, (low_scale hp).1, (low_scale hp).2, (low_scale hp).1, (low_scale hp).2, ivR_szD hd h3]
theorem oc_same {X Y Z D : Int} (hD : 1 ≤ D) (h0 : X * d = x * D) (h1 : Y * d = y * D) (h2 : Z * d = z * D) : ocZ X Y Z D = ocZ x y z d := by
 unfold ocZ
 refine ediv_same (Int.mul_pos (by omega) (by decide)) (Int.mul_pos (by omega) (by decide)) ?_
 have e : d * lgZ X Y Z = D * lgZ x y z := by
  rw [← lg_mul, ← lg_mul, Int.mul_comm d, Int.mul_comm d, Int.mul_comm d, h0, h1, h2, Int.mul_comm D, Int.mul_comm D, Int.mul_comm D]
 rw [← Int.mul_assoc, Int.mul_comm _ d, e, ← Int.mul_assoc, Int.mul_comm (lgZ x y z)]
theorem tred_any (ht : Tab w) (h1 : Bx x y z) (h3 : Bx (x - d * ocZ x y z d) y z) :
  Calls Tryz.prog 88 #[szD x y z d] w fun e w' => e = .returned (.tuple #[szD (x - d * ocZ x y z d) y z d, .int .i64 (ocZ x y z d), .int .i64 0]) ∧ Below w.heap.size w w' := by
 obtain ⟨hr, X, Y, Z, D, hp, hD, e0, e1, e2⟩ := plan_prt hd h1.1 h1.2.1 h1.2.2
 have hoc := oc_same x y z d hd hD.1 e0 e1 e2
 refine (ireduce_any _ _ _ _ _ _ X Y Z D w ht (szD_ok hd h1) hp).mono ?_
 rintro e w' ⟨he, hb⟩
 refine ⟨he.trans ?_, hb⟩
 rw [hoc]
 obtain ⟨k, hk⟩ : ∃ k, k = ocZ x y z d := ⟨_, rfl⟩
 rw [← hk] at h3 ⊢
 have hp : 0 < d := by omega
 have hl := low_cross (n := lowN x d * 1 - k * lowD x d) (d := lowD x d * 1) (m := x - d * k) (e := d) (by rw [Int.mul_one]; exact lowD_pos hp) hp (by
  rw [Int.mul_one, Int.mul_one, Int.sub_mul, Int.sub_mul, rd_low hp, Int.mul_assoc k, Int.mul_comm d k, Int.mul_assoc k, Int.mul_comm (lowD x d) d])
 rw [hl.1, hl.2]
 unfold rdR
 rw [if_pos (szD_ok hd h3)]
theorem tcmp_any (ht : Tab w) (h1 : Bx x y z) (h2 : Bx u v t) :
  Calls Tryz.prog 72 #[szD x y z d, szD u v t d] w fun e w' => e = .returned (.tuple #[.int .i64 (sgn (lgZ (x - u) (y - v) (z - t))), .int .i64 0]) ∧ Below w.heap.size w w' := by
 obtain ⟨hr, X, Y, Z, D, hp, hD, e0, e1, e2⟩ := plan_prt hd h1.1 h1.2.1 h1.2.2
 obtain ⟨hr', U, V, T, E, hp', hE, e0', e1', e2'⟩ := plan_prt hd h2.1 h2.2.1 h2.2.2
 refine (icompare_all _ _ _ _ _ _ _ _ _ _ _ _ X Y Z D U V T E w ht hr hr' hp hp').mono ?_
 rintro e w' ⟨he, hb⟩
 refine ⟨he.trans ?_, hb⟩
 have k1 : d * lgZ X Y Z = D * lgZ x y z := by
  rw [← lg_mul, ← lg_mul, Int.mul_comm d, Int.mul_comm d, Int.mul_comm d, e0, e1, e2, Int.mul_comm D, Int.mul_comm D, Int.mul_comm D]
 have k2 : d * lgZ U V T = E * lgZ u v t := by
  rw [← lg_mul, ← lg_mul, Int.mul_comm d, Int.mul_comm d, Int.mul_comm d, e0', e1', e2', Int.mul_comm E, Int.mul_comm E, Int.mul_comm E]
 have k3 := lg_sub x y z u v t 1 1
 simp only [Int.mul_one, Int.one_mul] at k3
 have k4 : d * (E * lgZ X Y Z - D * lgZ U V T) = (E * D) * lgZ (x - u) (y - v) (z - t) := by
  rw [k3, Int.mul_sub, Int.mul_sub, Int.mul_left_comm d E, k1, Int.mul_left_comm d D, k2, Int.mul_assoc, Int.mul_assoc, Int.mul_left_comm D E]
 rw [← sgn_mul_pos (show (0 : Int) < d by omega) , k4, sgn_mul_pos (Int.mul_pos (by omega) (by omega))]
end
theorem tof_any (n d : Int) (w : World) (hd : 1 ≤ d ∧ d ≤ 240) (hn : -6000 ≤ n ∧ n ≤ 6000) :
  Calls Tryz.prog 25 #[.int .i64 n, .int .i64 0, .int .i64 0] w fun e w' => e = .returned (.tuple #[szD (d * n) 0 0 d, .int .i64 0]) ∧ Below w.heap.size w w' := by
 refine (iof_any n 0 0 w ⟨by omega, by omega⟩ ⟨by decide, by decide⟩ ⟨by decide, by decide⟩).mono ?_
 rintro e w' ⟨he, hb⟩
 refine ⟨he.trans ?_, hb⟩
 rw [t_ivR_ones hn ⟨by decide, by decide⟩ ⟨by decide, by decide⟩]
 have hp : 0 < d := by omega
 have e1 := low_cross (n := d * n) (d := d) (m := n) (e := 1) hp (by decide) (by rw [Int.mul_one, Int.mul_comm])
 have e0 := low_cross (n := 0) (d := d) (m := 0) (e := 1) hp (by decide) (by rw [Int.zero_mul, Int.zero_mul])
 unfold szD
 rw [e1.1, e1.2, e0.1, e0.2, (t_low_one n).1, (t_low_one n).2, (t_low_one 0).1, (t_low_one 0).2]
theorem tnamed_at {k : ByteArray} {n q a0 a1 a2 b0 b1 b2 : Nat} (x y z : Int) (w : World) (h : nmGet k nmTab = some (n, q)) (f1 : Fac n a0 a1 a2 1) (f2 : Fac q b0 b1 b2 1) (hx : x = (a0 : Int) - b0) (hy : y = (a1 : Int) - b1) (hz : z = (a2 : Int) - b2) (hb : Bx x y z) :
  Calls Tryz.prog 41 #[.string k] w fun e w' => e = .returned (.tuple #[szv x 1 y 1 z 1, .int .i64 0]) ∧ Below w.heap.size w w' := by
 refine (named_any _ w).mono ?_
 intro e w' h0
 unfold RetNamed at h0
 rw [h] at h0
 obtain ⟨⟨rn, rd, a0', b0', a1', b1', a2', b2', ⟨g1, g2⟩, m2, m3, m5, he⟩, hbl⟩ := h0
 obtain ⟨rfl, rfl, rfl, rfl⟩ := fac_uniq g1 f1 m2.1 m3.1 m5.1 (by decide) (by decide) (by decide)
 obtain ⟨rfl, rfl, rfl, rfl⟩ := fac_uniq g2 f2 m2.2 m3.2 m5.2 (by decide) (by decide) (by decide)
 rw [if_pos rfl, ← hx, ← hy, ← hz, t_ivR_ones hb.1 hb.2.1 hb.2.2] at he
 exact ⟨he, hbl⟩
end Go.Proofs.YtlmheeommpbimaaGreatDoor
namespace Go.Proofs.YtlmheeommpbimaaGreatDoor
open Go.RowKit
theorem Hp.put6s {w W : World} {L : List (Nat × TypeId × List Value)} (h : Hp w L W) (i : Nat) {g : Nat} {t : TypeId} {a b c d x y : Value} (e : L[i]? = some (g, t, [a, b, c, d, x, y])) (a' b' c' d' x' y' : Value) : Below w.heap.size w ((((((W.setCell ⟨g, 0, none⟩ a').setCell ⟨g, 1, none⟩ b').setCell ⟨g, 2, none⟩ c').setCell ⟨g, 3, none⟩ d').setCell ⟨g, 4, none⟩ x').setCell ⟨g, 5, none⟩ y') := (h.put6 i e a' b' c' d' x' y').below
set_option maxRecDepth 100000 in
set_option maxHeartbeats 2000000 in
theorem tnamed_any (k : ByteArray) (a0 b0 a1 b1 a2 b2 x : Int) (w : World)
  (hn : ∀ W, Calls Tryz.prog 41 #[.string k] W fun e W' => e = .returned (.tuple #[szv a0 b0 a1 b1 a2 b2, .int .i64 x]) ∧ Below W.heap.size W W') :
  Calls Tryz.prog 48 #[.string k] w fun e w' => e = .returned (szv a0 b0 a1 b1 a2 b2) ∧ Below w.heap.size w w' := by
 have HN := Lib.hid hn
 have hm0 := (Hp.start w).new 36 [.int .i64 0, .int .i64 0, .int .i64 0, .int .i64 0, .int .i64 0, .int .i64 0]
 simp only [List.nil_append] at hm0
 have HM0 := Lib.hid hm0
 clear hm0 hn
 go_enter Tryz.func48, Tryz.ntmps48
 go_wp2_with fail
 refine (HN.out _).mono ?_
 rintro e w1 ⟨rfl, hb1⟩
 have hm1 := (HM0.out.step hb1).new 36 [.int .i64 a0, .int .i64 b0, .int .i64 a1, .int .i64 b1, .int .i64 a2, .int .i64 b2]
 simp only [List.nil_append, List.cons_append] at hm1
 obtain ⟨z0, z1, z2, z3, z4, z5⟩ := six_of (hm1.at_ 0 rfl)
 obtain ⟨f0, f1, f2, f3, f4, f5⟩ := six_free (hm1.at_ 0 rfl)
 have HB := Lib.hid (hm1.put6s 0 rfl (.int .i64 a0) (.int .i64 b0) (.int .i64 a1) (.int .i64 b1) (.int .i64 a2) (.int .i64 b2))
 clear hb1 hm1
 go_wp2
 exact bodyPost_ret (v := szv a0 b0 a1 b1 a2 b2) (by simp [results, Tryz.results48, go_sem, z0, z1, z2, z3, z4, z5, f0, f1, f2, f3, f4, f5]) rfl ⟨rfl, HB.out⟩
set_option maxRecDepth 100000 in
set_option maxHeartbeats 2000000 in
theorem toctaves_any (n d : Int) (w : World) (hd : 1 ≤ d ∧ d ≤ 240) (hn : -6000 ≤ n ∧ n ≤ 6000) :
  Calls Tryz.prog 47 #[.int .i64 n] w fun e w' => e = .returned (szD (d * n) 0 0 d) ∧ Below w.heap.size w w' := by
 have HN := Lib.hid (fun W => tof_any n d W hd hn)
 have hm0 := (Hp.start w).new 36 [.int .i64 0, .int .i64 0, .int .i64 0, .int .i64 0, .int .i64 0, .int .i64 0]
 simp only [List.nil_append] at hm0
 have HM0 := Lib.hid hm0
 unfold szD at HN ⊢
 generalize lowN (d * n) d = a0 at *
 generalize lowD (d * n) d = b0 at *
 generalize lowN 0 d = a1 at *
 generalize lowD 0 d = b1 at *
 clear hm0
 go_enter Tryz.func47, Tryz.ntmps47
 go_wp2_with fail
 refine (HN.out _).mono ?_
 rintro e w1 ⟨rfl, hb1⟩
 have hm1 := (HM0.out.step hb1).new 36 [.int .i64 a0, .int .i64 b0, .int .i64 a1, .int .i64 b1, .int .i64 a1, .int .i64 b1]
 simp only [List.nil_append, List.cons_append] at hm1
 obtain ⟨z0, z1, z2, z3, z4, z5⟩ := six_of (hm1.at_ 0 rfl)
 obtain ⟨f0, f1, f2, f3, f4, f5⟩ := six_free (hm1.at_ 0 rfl)
 have HB := Lib.hid (hm1.put6s 0 rfl (.int .i64 a0) (.int .i64 b0) (.int .i64 a1) (.int .i64 b1) (.int .i64 a1) (.int .i64 b1))
 clear hb1 hm1
 go_wp2
 exact bodyPost_ret (v := szv a0 b0 a1 b1 a1 b1) (by simp [results, Tryz.results47, go_sem, z0, z1, z2, z3, z4, z5, f0, f1, f2, f3, f4, f5]) rfl ⟨rfl, HB.out⟩
def limV (a0 b0 a1 b1 a2 b2 x : Int) : Value := if x = 0 then .tuple #[szv a0 b0 a1 b1 a2 b2, .int .i64 0] else .tuple #[szv 0 0 0 0 0 0, .int .i64 4]
set_option maxRecDepth 100000 in
set_option maxHeartbeats 2000000 in
theorem tlimited_any (a0 b0 a1 b1 a2 b2 x : Int) (w : World) :
  Calls Tryz.prog 45 #[szv a0 b0 a1 b1 a2 b2, .int .i64 x] w fun e w' => e = .returned (limV a0 b0 a1 b1 a2 b2 x) ∧ Below w.heap.size w w' := by
 by_cases hx : x = 0
 ·subst hx
  have HE := Lib.hid (show limV a0 b0 a1 b1 a2 b2 0 = .tuple #[szv a0 b0 a1 b1 a2 b2, .int .i64 0] from if_pos rfl)
  go_enter Tryz.func45, Tryz.ntmps45
  go_wp2
  exact bodyPost_ret (v := .tuple #[szv a0 b0 a1 b1 a2 b2, .int .i64 0]) (by simp [results, Tryz.results45, go_sem]) rfl ⟨by rw [HE.out], bw_new (bw_new (Below.refl _ _) _) _⟩
 ·have HE := Lib.hid (show limV a0 b0 a1 b1 a2 b2 x = .tuple #[szv 0 0 0 0 0 0, .int .i64 4] from if_neg hx)
  have hz : (x != 0) = true := by simpa using hx
  clear hx
  go_enter Tryz.func45, Tryz.ntmps45
  go_wp2
  exact bodyPost_ret (v := .tuple #[szv 0 0 0 0 0 0, .int .i64 4]) (by simp [results, Tryz.results45, go_sem]) rfl ⟨by rw [HE.out], bw_new (bw_new (Below.refl _ _) _) _⟩
end Go.Proofs.YtlmheeommpbimaaGreatDoor
