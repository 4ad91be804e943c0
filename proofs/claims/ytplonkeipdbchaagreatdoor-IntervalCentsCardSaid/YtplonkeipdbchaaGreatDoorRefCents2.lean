/- Package bombarderef05: Cents. Conditions: exponents are at most 6000, the denominator at most 240; the library's table of powers of ten reads as its text lays it. Printed by gencents.py. -/
import Derived.Test.YtplonkeipdbchaaGreatDoorRefCents
import Derived.Test.YtplonkeipdbchaaGreatDoorRegI
import Derived.Test.YtplonkeipdbchaaGreatDoorRefRead
namespace Go.Proofs.YtplonkeipdbchaaGreatDoor
open Go.RowKit

theorem run_max_int2 (ts : Array TypeId) (t : TypeId) (x y : Int) (w : World) : (Builtin.max_ ts t #[.int .i64 x, .int .i64 y]).run Tryz.prog w = .ok (.int .i64 (if y > x then y else x)) w := by
  simp [Builtin.max_, Builtin.max2]
theorem run_min_int2 (ts : Array TypeId) (t : TypeId) (x y : Int) (w : World) : (Builtin.min_ ts t #[.int .i64 x, .int .i64 y]).run Tryz.prog w = .ok (.int .i64 (if y < x then y else x)) w := by
  simp [Builtin.min_, Builtin.min2]
theorem dec_ten : dec 10 = ⟨#[49, 48]⟩ := by decide +kernel
theorem hi_eq (x y z : Int) : hiZ x y z = lgZ x y z + ((if 0 > y then 0 else y) + (if 0 > z then 0 else z)) := by
  unfold hiZ
  split <;> split <;> split <;> split <;> omega
theorem lo_eq' (x y z : Int) : loZ x y z = lgZ x y z + ((if 0 < y then 0 else y) + (if 0 < z then 0 else z)) := by
  unfold loZ
  split <;> split <;> omega
theorem lg_asc (x y z : Int) : lgZ x y z = x * lgU + y * lgT + z * lgF := by
  unfold lgZ
  simp only [List.sum_cons, List.sum_nil]
  omega
/-- What nearest makes of the upper bound. -/
def cenH (x y z D : Int) : Int := (hiZ x y z * 240000 + D * lgU) / (D * lgU * 2)
theorem cen_smallR {x y z D : Int} (hx : -6000 ≤ x ∧ x ≤ 6000) (hy : -6000 ≤ y ∧ y ≤ 6000) (hz : -6000 ≤ z ∧ z ≤ 6000) (hD : 1 ≤ D ∧ D ≤ 240) : Lib.nDigits (cenZ x y z D).natAbs ≤ 17 := by
  have h : -10 ^ 12 ≤ cenZ x y z D ∧ cenZ x y z D ≤ 10 ^ 12 := by
    have hp : 0 < D * lgU * 2 := by unfold lgU; omega
    unfold cenZ
    have h1 := lg_asc x y z
    have h2 : loZ x y z = lgZ x y z + (if 0 < y then 0 else y) + (if 0 < z then 0 else z) := rfl
    have hlo : -(10 ^ 36) ≤ loZ x y z ∧ loZ x y z ≤ 10 ^ 36 := by
      rw [h2, h1]; unfold lgU lgT lgF
      split <;> split <;> omega
    constructor
    · exact Int.le_ediv_of_mul_le hp (by unfold lgU; omega)
    · exact Int.ediv_le_of_le_mul hp (by unfold lgU; omega)
  exact Nat.le_trans (nDigits_le _ 13 (by decide) (by omega)) (by decide)
/-- The frame while both bounds are rounded. -/
def ceF (h : Nat) (x y z D k1 k2 l1 l2 : Int) (su slo shi slg t0 t1 t2 t3 okk oll : ByteArray) (x9 x10 x57 x58 x59 x60 x61 x62 x63 x64 x65 x66 : Value) : Act := { tmps := #[ovv x y z D, .pointer (some ⟨h, 0, none⟩), .int .i64 0, .bool false, .string su, .string sThree, .string sFive, .string slo, .string shi, x9, x10, undef, undef, .string su, .pointer (some ⟨h, 0, none⟩), .pointer (some ⟨h, 0, none⟩), .int .i64 x, .string su, .string t0, .string t0, .pointer (some ⟨h, 0, none⟩), .pointer (some ⟨h, 1, none⟩), .int .i64 y, .string sThree, .string t1, .string t3, .string t3, .pointer (some ⟨h, 0, none⟩), .pointer (some ⟨h, 2, none⟩), .int .i64 z, .string sFive, .string t2, .string slg, .string slg, .pointer (some ⟨h, 0, none⟩), .pointer (some ⟨h, 1, none⟩), .int .i64 y, .int .i64 k1, .pointer (some ⟨h, 0, none⟩), .pointer (some ⟨h, 2, none⟩), .int .i64 z, .int .i64 k2, .int .i64 (wrap64 (k1 + k2)), .string okk, .string shi, .string slg, .pointer (some ⟨h, 0, none⟩), .pointer (some ⟨h, 1, none⟩), .int .i64 y, .int .i64 l1, .pointer (some ⟨h, 0, none⟩), .pointer (some ⟨h, 2, none⟩), .int .i64 z, .int .i64 l2, .int .i64 (wrap64 (l1 + l2)), .string oll, .string slo, x57, x58, x59, x60, x61, x62, x63, x64, x65, x66, undef, undef, undef, undef, undef, undef, undef, undef, undef, undef, undef, undef], defers := [] }
/-- What each operation of this statement keeps, wherever it comes up. -/
def CeRel (w : World) (x y z D k1 k2 l1 l2 : Int) (su slo shi slg t0 t1 t2 t3 okk oll sa sb : ByteArray) (l : Array Bool) (a : Act) (W : World) : Prop :=
  ∃ (u0 u1 u2 u3 u4 u5 u6 u7 u8 u9 u10 u11 : Bool), l = #[u0, u1, u2, u3, u4, u5, u6, u7, u8, u9, u10, u11] ∧ a = ceF w.heap.size x y z D k1 k2 l1 l2 su slo shi slg t0 t1 t2 t3 okk oll (cv u10 (.string sa)) (cv u11 (.string sb)) (cv u0 (.string slo)) (cv u1 (.string su)) (cv u2 (.pointer (some ⟨w.heap.size, 3, none⟩))) (cv u3 (.int .i64 D)) (cv u4 (.string sa)) (cv u5 (.string shi)) (cv u6 (.string su)) (cv u7 (.pointer (some ⟨w.heap.size, 3, none⟩))) (cv u8 (.int .i64 D)) (cv u9 (.string sb)) ∧ Hp w [(w.heap.size, 28, [.int .i64 x, .int .i64 y, .int .i64 z, .int .i64 D])] W
theorem getBD {md : Region.Mode} {l : Array Bool} {es : Array Edge} {x : Bool} (h : ∀ e ∈ es, Region.binds md e = true → l.getD e.on false = true) (j : Nat) (hx : l.getD j false = x) (hm : (es.any fun e => e.on == j && Region.binds md e) = true := by kernel_rfl) : x = true := by
  obtain ⟨e, he, h2⟩ := Array.any_eq_true'.1 hm
  rw [Bool.and_eq_true, beq_iff_eq] at h2
  rw [← hx, ← h2.1]
  exact h e he h2.2
set_option maxRecDepth 100000 in
set_option maxHeartbeats 8000000 in
theorem refcents_any (x y z D : Int) (w : World) (ht : Tab w) (hx : -6000 ≤ x ∧ x ≤ 6000) (hy : -6000 ≤ y ∧ y ≤ 6000) (hz : -6000 ≤ z ∧ z ≤ 6000) (hD : 1 ≤ D ∧ D ≤ 240) :
    Calls Tryz.prog 9 #[ovv x y z D] w fun e w' => (∃ is : Bool, e = .returned (.tuple #[.int .i64 (cenZ x y z D), .bool is])) ∧ Below w.heap.size w w' := by
  have m1 : M12 x := ⟨by omega, by omega⟩
  have m2 : M12 y := ⟨by omega, by omega⟩
  have m3 : M12 z := ⟨by omega, by omega⟩
  have b1 := lgZ_bd m1 m2 m3
  have b2 := lo_bd m1 m2 m3
  have b3 := hi_bd m1 m2 m3
  have c1 := mul_lg m1 lg_bd.1
  have c2 := mul_lg m2 lg_bd.2.1
  have c3 := mul_lg m3 lg_bd.2.2
  have hds : ∀ q : Int, q.natAbs < 10 ^ 46 → Lib.nDigits q.natAbs ≤ 1000 := fun q h => Nat.le_trans (nDigits_le _ 46 (by decide) h) (by decide)
  have hu : (10 : Int) ^ 30 = lgU := by decide
  obtain ⟨k1, hk1⟩ : ∃ k, k = (if 0 > y then 0 else y) := ⟨_, rfl⟩
  obtain ⟨k2, hk2⟩ : ∃ k, k = (if 0 > z then 0 else z) := ⟨_, rfl⟩
  obtain ⟨l1, hl1⟩ : ∃ k, k = (if 0 < y then 0 else y) := ⟨_, rfl⟩
  obtain ⟨l2, hl2⟩ : ∃ k, k = (if 0 < z then 0 else z) := ⟨_, rfl⟩
  have hh := hi_eq x y z
  have hl := lo_eq' x y z
  have hg := lg_asc x y z
  rw [← hk1, ← hk2] at hh
  rw [← hl1, ← hl2] at hl
  have bk : -12000 ≤ k1 + k2 ∧ k1 + k2 ≤ 12000 := by rw [hk1, hk2]; split <;> split <;> omega
  have bl : -12000 ≤ l1 + l2 ∧ l1 + l2 ≤ 12000 := by rw [hl1, hl2]; split <;> split <;> omega
  have HX1 := Lib.hid (fun W => run_max_int2 #[3, 3] 3 y 0 W)
  have HX2 := Lib.hid (fun W => run_max_int2 #[3, 3] 3 z 0 W)
  have HN1 := Lib.hid (fun W => run_min_int2 #[3, 3] 3 y 0 W)
  have HN2 := Lib.hid (fun W => run_min_int2 #[3, 3] 3 z 0 W)
  rw [← hk1] at HX1
  rw [← hk2] at HX2
  rw [← hl1] at HN1
  rw [← hl2] at HN2
  have HPW := Lib.hid (fun W h => refpower_any 10 30 W h (by decide) (by have := nDigits_le 10 2 (by decide) (by decide); show 30 * Lib.nDigits 10 ≤ 80000; omega))
  rw [dec_ten, show ((10 : Int) ^ 30) = lgU from hu] at HPW
  have HT0 := Lib.hid (fun W h => reftm_any x lgU W h (by omega) (by omega) (hds lgU (by decide)))
  have HT1 := Lib.hid (fun W h => reftm_any y lgT W h (by omega) (by omega) (hds lgT (by decide)))
  have HT2 := Lib.hid (fun W h => reftm_any z lgF W h (by omega) (by omega) (hds lgF (by decide)))
  rw [dec_three] at HT1
  rw [dec_five] at HT2
  have HA1 := Lib.hid (fun W h => refadd_any (x * lgU) (y * lgT) W h (Nat.le_trans (hds _ (by omega)) (by decide)) (Nat.le_trans (hds _ (by omega)) (by decide)))
  have HA2 := Lib.hid (fun W h => refadd_any (x * lgU + y * lgT) (z * lgF) W h (Nat.le_trans (hds _ (by omega)) (by decide)) (Nat.le_trans (hds _ (by omega)) (by decide)))
  rw [← hg] at HA2
  have HO1 := Lib.hid (fun W h => refof_any (k1 + k2) (by omega) (by omega) W h)
  have HO2 := Lib.hid (fun W h => refof_any (l1 + l2) (by omega) (by omega) W h)
  have HA3 := Lib.hid (fun W h => refadd_any (lgZ x y z) (k1 + k2) W h (Nat.le_trans (hds _ (by omega)) (by decide)) (Nat.le_trans (hds _ (by omega)) (by decide)))
  have HA4 := Lib.hid (fun W h => refadd_any (lgZ x y z) (l1 + l2) W h (Nat.le_trans (hds _ (by omega)) (by decide)) (Nat.le_trans (hds _ (by omega)) (by decide)))
  rw [← hh] at HA3
  rw [← hl] at HA4
  have HE1 := Lib.hid (fun W h => nearest_any (loZ x y z) lgU D W h (by omega) (by omega) (by decide))
  have HE2 := Lib.hid (fun W h => nearest_any (hiZ x y z) lgU D W h (by omega) (by omega) (by decide))
  rw [show (loZ x y z * 240000 + D * lgU) / (D * lgU * 2) = cenZ x y z D from rfl] at HE1
  have HSM := Lib.hid (fun W => small_any (cenZ x y z D) W (cen_smallR hx hy hz hD))
  have hw1 : wrap64 (k1 + k2) = k1 + k2 := IntWalk.wrap64_in _ ⟨by omega, by omega⟩
  have hw2 : wrap64 (l1 + l2) = l1 + l2 := IntWalk.wrap64_in _ ⟨by omega, by omega⟩
  obtain ⟨kk, hkk⟩ : ∃ k, k = k1 + k2 := ⟨_, rfl⟩
  obtain ⟨ll, hll⟩ : ∃ k, k = l1 + l2 := ⟨_, rfl⟩
  rw [← hkk] at hw1 HO1 HA3
  rw [← hll] at hw2 HO2 HA4
  have HW1 := Lib.hid (show wrap64 (k1 + k2) = kk from hkk ▸ hw1)
  have HW2 := Lib.hid (show wrap64 (l1 + l2) = ll from hll ▸ hw2)
  obtain ⟨cz, hcz⟩ : ∃ c, c = cenZ x y z D := ⟨_, rfl⟩
  rw [← hcz] at HSM HE1 ⊢
  obtain ⟨sa, hsa⟩ : ∃ s, s = dec cz := ⟨_, rfl⟩
  obtain ⟨sb, hsb⟩ : ∃ s, s = dec ((hiZ x y z * 240000 + D * lgU) / (D * lgU * 2)) := ⟨_, rfl⟩
  rw [← hsa] at HSM HE1
  rw [← hsb] at HE2
  obtain ⟨slo, hslo⟩ : ∃ s, s = dec (loZ x y z) := ⟨_, rfl⟩
  obtain ⟨shi, hshi⟩ : ∃ s, s = dec (hiZ x y z) := ⟨_, rfl⟩
  rw [← hslo] at HA4 HE1
  rw [← hshi] at HA3 HE2
  obtain ⟨slg, hslg⟩ : ∃ s, s = dec (lgZ x y z) := ⟨_, rfl⟩
  rw [← hslg] at HA2 HA3 HA4
  obtain ⟨su, hsu⟩ : ∃ s, s = dec lgU := ⟨_, rfl⟩
  rw [← hsu] at HPW HT0 HE1 HE2
  obtain ⟨t0, ht0⟩ : ∃ s, s = dec (x * lgU) := ⟨_, rfl⟩
  obtain ⟨t1, ht1⟩ : ∃ s, s = dec (y * lgT) := ⟨_, rfl⟩
  obtain ⟨t2, ht2⟩ : ∃ s, s = dec (z * lgF) := ⟨_, rfl⟩
  obtain ⟨t3, ht3⟩ : ∃ s, s = dec (x * lgU + y * lgT) := ⟨_, rfl⟩
  rw [← ht0] at HT0 HA1
  rw [← ht1] at HT1 HA1
  rw [← ht2] at HT2 HA2
  rw [← ht3] at HA1 HA2
  obtain ⟨okk, hokk⟩ : ∃ s, s = dec kk := ⟨_, rfl⟩
  obtain ⟨oll, holl⟩ : ∃ s, s = dec ll := ⟨_, rfl⟩
  rw [← hokk] at HO1 HA3
  rw [← holl] at HO2 HA4
  have HT := Lib.hid ht
  have HM0 := Lib.hid (show Hp w [(w.heap.size, 28, [.int .i64 x, .int .i64 y, .int .i64 z, .int .i64 D])] (w.alloc (.cells #[.int .i64 x, .int .i64 y, .int .i64 z, .int .i64 D] 28)) from (Hp.start w).new 28 [.int .i64 x, .int .i64 y, .int .i64 z, .int .i64 D])
  clear m1 m2 m3 b1 b2 b3 c1 c2 c3 hds hu hk1 hk2 hl1 hl2 hh hl hg bk bl hw1 hw2 hkk hll hcz hsa hsb hslo hshi hslg hsu ht0 ht1 ht2 ht3 hokk holl ht hx hy hz hD
  go_enter Tryz.func9, Tryz.ntmps9
  go_wp2_with fail
  refine (HPW.out _ (HT.out.below HM0.out.below)).mono ?_
  rintro e w1 ⟨rfl, hb⟩
  have HM1 := Lib.hid (HM0.out.step hb)
  clear hb
  obtain ⟨q0, q1, q2, q3⟩ := four_of (HM1.out.at_ 0 rfl)
  go_wp2_with fail
  refine (HT0.out _ (HT.out.below HM1.out.below)).mono ?_
  rintro e w2 ⟨rfl, hb⟩
  have HM2 := Lib.hid (HM1.out.step hb)
  clear hb
  clear q0 q1 q2 q3
  obtain ⟨q0, q1, q2, q3⟩ := four_of (HM2.out.at_ 0 rfl)
  go_wp2_with fail
  refine (HT1.out _ (HT.out.below HM2.out.below)).mono ?_
  rintro e w3 ⟨rfl, hb⟩
  have HM3 := Lib.hid (HM2.out.step hb)
  clear hb
  clear q0 q1 q2 q3
  obtain ⟨q0, q1, q2, q3⟩ := four_of (HM3.out.at_ 0 rfl)
  go_wp2_with fail
  refine (HA1.out _ (HT.out.below HM3.out.below)).mono ?_
  rintro e w4 ⟨rfl, hb⟩
  have HM4 := Lib.hid (HM3.out.step hb)
  clear hb
  clear q0 q1 q2 q3
  obtain ⟨q0, q1, q2, q3⟩ := four_of (HM4.out.at_ 0 rfl)
  go_wp2_with fail
  refine (HT2.out _ (HT.out.below HM4.out.below)).mono ?_
  rintro e w5 ⟨rfl, hb⟩
  have HM5 := Lib.hid (HM4.out.step hb)
  clear hb
  clear q0 q1 q2 q3
  obtain ⟨q0, q1, q2, q3⟩ := four_of (HM5.out.at_ 0 rfl)
  go_wp2_with fail
  refine (HA2.out _ (HT.out.below HM5.out.below)).mono ?_
  rintro e w6 ⟨rfl, hb⟩
  have HM6 := Lib.hid (HM5.out.step hb)
  clear hb
  clear q0 q1 q2 q3
  obtain ⟨q0, q1, q2, q3⟩ := four_of (HM6.out.at_ 0 rfl)
  have hx1 := HX1.out
  have hx2 := HX2.out
  have hw1 := HW1.out
  go_wp2_with fail
  refine (HO1.out _ (HT.out.below HM6.out.below)).mono ?_
  rintro e w7 ⟨rfl, hb⟩
  have HM7 := Lib.hid (HM6.out.step hb)
  clear hb
  clear q0 q1 q2 q3
  obtain ⟨q0, q1, q2, q3⟩ := four_of (HM7.out.at_ 0 rfl)
  clear hx1 hx2 hw1
  go_wp2_with fail
  refine (HA3.out _ (HT.out.below HM7.out.below)).mono ?_
  rintro e w8 ⟨rfl, hb⟩
  have HM8 := Lib.hid (HM7.out.step hb)
  clear hb
  clear q0 q1 q2 q3
  obtain ⟨q0, q1, q2, q3⟩ := four_of (HM8.out.at_ 0 rfl)
  have hn1 := HN1.out
  have hn2 := HN2.out
  have hw2 := HW2.out
  go_wp2_with fail
  refine (HO2.out _ (HT.out.below HM8.out.below)).mono ?_
  rintro e w9 ⟨rfl, hb⟩
  have HM9 := Lib.hid (HM8.out.step hb)
  clear hb
  clear q0 q1 q2 q3
  obtain ⟨q0, q1, q2, q3⟩ := four_of (HM9.out.at_ 0 rfl)
  clear hn1 hn2 hw2
  go_wp2_with fail
  refine (HA4.out _ (HT.out.below HM9.out.below)).mono ?_
  rintro e w10 ⟨rfl, hb⟩
  have HM10 := Lib.hid (HM9.out.step hb)
  clear hb
  clear q0 q1 q2 q3
  obtain ⟨q0, q1, q2, q3⟩ := four_of (HM10.out.at_ 0 rfl)
  go_upto_region 8 with fail
  refine wp_regionI 12 #[false, false, false, false, false, false, false, false, false, false, false, false] (fun l a W => CeRel w x y z D k1 k2 l1 l2 su slo shi slg t0 t1 t2 t3 okk oll sa sb l a W) (by kernel_rfl) (by kernel_rfl) (by kernel_rfl) (by kernel_rfl) ?_ ?_ ?_ ?_
  · rintro l a W ⟨u0, u1, u2, u3, u4, u5, u6, u7, u8, u9, u10, u11, rfl, _⟩
    rfl
  · exact ⟨false, false, false, false, false, false, false, false, false, false, false, false, rfl, rfl, HM10.out.drew⟩
  · clear q0 q1 q2 q3 HM10
    rintro l a W i o ⟨u0, u1, u2, u3, u4, u5, u6, u7, u8, u9, u10, u11, rfl, rfl, hm⟩ ho hun hall K hK
    have hi : i < 12 := (Array.getElem?_eq_some_iff.1 ho).1
    have HM := Lib.hid hm
    clear hm
    rcases (show i = 0 ∨ i = 1 ∨ i = 2 ∨ i = 3 ∨ i = 4 ∨ i = 5 ∨ i = 6 ∨ i = 7 ∨ i = 8 ∨ i = 9 ∨ i = 10 ∨ i = 11 by omega) with rfl | rfl | rfl | rfl | rfl | rfl | rfl | rfl | rfl | rfl | rfl | rfl
    · obtain rfl := Option.some.inj (show some _ = some o from ho)
      clear hall hun hi ho
      unfold ceF
      go_simp
      exact hK.out _ _ ⟨true, u1, u2, u3, u4, u5, u6, u7, u8, u9, u10, u11, rfl, rfl, HM.out⟩
    · obtain rfl := Option.some.inj (show some _ = some o from ho)
      clear hall hun hi ho
      unfold ceF
      go_simp
      exact hK.out _ _ ⟨u0, true, u2, u3, u4, u5, u6, u7, u8, u9, u10, u11, rfl, rfl, HM.out⟩
    · obtain rfl := Option.some.inj (show some _ = some o from ho)
      clear hall hun hi ho
      unfold ceF
      go_simp
      exact hK.out _ _ ⟨u0, u1, true, u3, u4, u5, u6, u7, u8, u9, u10, u11, rfl, rfl, HM.out⟩
    · obtain rfl := Option.some.inj (show some _ = some o from ho)
      obtain rfl : u2 = true := getBD hall 2 rfl
      clear hall hun hi ho
      obtain ⟨z0, z1, z2, z3⟩ := four_of (HM.out.at_ 0 rfl)
      unfold ceF
      go_simp
      exact hK.out _ _ ⟨u0, u1, true, true, u4, u5, u6, u7, u8, u9, u10, u11, rfl, rfl, HM.out⟩
    · obtain rfl := Option.some.inj (show some _ = some o from ho)
      obtain rfl : u0 = true := getBD hall 0 rfl
      obtain rfl : u1 = true := getBD hall 1 rfl
      obtain rfl : u3 = true := getBD hall 3 rfl
      clear hall hun hi ho
      unfold ceF
      go_simp
      refine (HE1.out _ (HT.out.below HM.out.below)).mono ?_
      rintro e W' ⟨rfl, hb⟩
      exact hK.out _ _ ⟨true, true, u2, true, true, u5, u6, u7, u8, u9, u10, u11, rfl, rfl, HM.out.step hb⟩
    · obtain rfl := Option.some.inj (show some _ = some o from ho)
      clear hall hun hi ho
      unfold ceF
      go_simp
      exact hK.out _ _ ⟨u0, u1, u2, u3, u4, true, u6, u7, u8, u9, u10, u11, rfl, rfl, HM.out⟩
    · obtain rfl := Option.some.inj (show some _ = some o from ho)
      clear hall hun hi ho
      unfold ceF
      go_simp
      exact hK.out _ _ ⟨u0, u1, u2, u3, u4, u5, true, u7, u8, u9, u10, u11, rfl, rfl, HM.out⟩
    · obtain rfl := Option.some.inj (show some _ = some o from ho)
      clear hall hun hi ho
      unfold ceF
      go_simp
      exact hK.out _ _ ⟨u0, u1, u2, u3, u4, u5, u6, true, u8, u9, u10, u11, rfl, rfl, HM.out⟩
    · obtain rfl := Option.some.inj (show some _ = some o from ho)
      obtain rfl : u7 = true := getBD hall 7 rfl
      clear hall hun hi ho
      obtain ⟨z0, z1, z2, z3⟩ := four_of (HM.out.at_ 0 rfl)
      unfold ceF
      go_simp
      exact hK.out _ _ ⟨u0, u1, u2, u3, u4, u5, u6, true, true, u9, u10, u11, rfl, rfl, HM.out⟩
    · obtain rfl := Option.some.inj (show some _ = some o from ho)
      obtain rfl : u5 = true := getBD hall 5 rfl
      obtain rfl : u6 = true := getBD hall 6 rfl
      obtain rfl : u8 = true := getBD hall 8 rfl
      clear hall hun hi ho
      unfold ceF
      go_simp
      refine (HE2.out _ (HT.out.below HM.out.below)).mono ?_
      rintro e W' ⟨rfl, hb⟩
      exact hK.out _ _ ⟨u0, u1, u2, u3, u4, true, true, u7, true, true, u10, u11, rfl, rfl, HM.out.step hb⟩
    · obtain rfl := Option.some.inj (show some _ = some o from ho)
      obtain rfl : u4 = true := getBD hall 4 rfl
      clear hall hun hi ho
      unfold ceF
      go_simp
      exact hK.out _ _ ⟨u0, u1, u2, u3, true, u5, u6, u7, u8, u9, true, u11, rfl, rfl, HM.out⟩
    · obtain rfl := Option.some.inj (show some _ = some o from ho)
      obtain rfl : u9 = true := getBD hall 9 rfl
      clear hall hun hi ho
      unfold ceF
      go_simp
      exact hK.out _ _ ⟨u0, u1, u2, u3, u4, u5, u6, u7, u8, true, u10, true, rfl, rfl, HM.out⟩
  · clear q0 q1 q2 q3 HM10
    rintro l a W ⟨u0, u1, u2, u3, u4, u5, u6, u7, u8, u9, u10, u11, rfl, rfl, hm⟩ hall
    obtain rfl : u0 = true := hall 0 (by decide)
    obtain rfl : u1 = true := hall 1 (by decide)
    obtain rfl : u2 = true := hall 2 (by decide)
    obtain rfl : u3 = true := hall 3 (by decide)
    obtain rfl : u4 = true := hall 4 (by decide)
    obtain rfl : u5 = true := hall 5 (by decide)
    obtain rfl : u6 = true := hall 6 (by decide)
    obtain rfl : u7 = true := hall 7 (by decide)
    obtain rfl : u8 = true := hall 8 (by decide)
    obtain rfl : u9 = true := hall 9 (by decide)
    obtain rfl : u10 = true := hall 10 (by decide)
    obtain rfl : u11 = true := hall 11 (by decide)
    clear hall
    have HM := Lib.hid hm
    clear hm
    unfold ceF
    dsimp only [cv, cond_true]
    go_wp2_with fail
    refine (HSM.out _).mono ?_
    rintro e w12 ⟨rfl, hb⟩
    have HM12 := Lib.hid (HM.out.step hb)
    clear hb
    go_wp2
    go_ret2
    exact ⟨⟨_, rfl⟩, HM12.out.below⟩
end Go.Proofs.YtplonkeipdbchaaGreatDoor
