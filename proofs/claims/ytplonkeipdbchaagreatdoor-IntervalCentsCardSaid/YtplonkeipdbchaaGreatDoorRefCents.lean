/- Package bombarderef05: times, nearest. Conditions: digits as named; the library's table of powers of ten reads as its text lays it. -/
import Derived.Test.YtplonkeipdbchaaGreatDoorRefDiv
import Derived.Test.YtplonkeipdbchaaGreatDoorIvCents
namespace Go.Proofs.YtplonkeipdbchaaGreatDoor
open Go.RowKit

set_option maxRecDepth 100000 in
set_option maxHeartbeats 4000000 in
theorem reftm_any (n a : Int) (w : World) (ht : Tab w) (h0 : -9223372036854775808 ≤ n) (h1 : n ≤ 9223372036854775807) (ha : Lib.nDigits a.natAbs ≤ 1000) :
    Calls Tryz.prog 33 #[.int .i64 n, .string (dec a)] w fun e w' => e = .returned (.string (dec (n * a))) ∧ Below w.heap.size w w' := by
  have hn : Lib.nDigits n.natAbs ≤ 90000 := Nat.le_trans (nDigits_le _ 20 (by decide) (by omega)) (by decide)
  have HO := Lib.hid (fun W h => refof_any n h0 h1 W h)
  have HM := Lib.hid (fun W h => refmul_any n a W h hn (by omega))
  obtain ⟨sa, hsa⟩ : ∃ s, s = dec a := ⟨_, rfl⟩
  obtain ⟨sn, hsn⟩ : ∃ s, s = dec n := ⟨_, rfl⟩
  rw [← hsa] at HM ⊢
  rw [← hsn] at HM HO
  have HT := Lib.hid ht
  clear hsa hsn hn ha ht
  go_enter Tryz.func33, Tryz.ntmps33
  go_wp2_with fail
  refine (HO.out _ HT.out).mono ?_
  rintro e w1 ⟨rfl, hb1⟩
  have HB1 := Lib.hid hb1
  clear hb1
  go_wp2_with fail
  refine (HM.out _ (HT.out.below HB1.out)).mono ?_
  rintro e w2 ⟨rfl, hb2⟩
  have HB2 := Lib.hid (HB1.out.trans (hb2.mono HB1.out.size))
  clear hb2
  go_wp2
  go_ret
  exact ⟨rfl, HB2.out⟩
set_option maxRecDepth 100000 in
set_option maxHeartbeats 4000000 in
theorem nearest_any (x u d : Int) (w : World) (ht : Tab w) (h0 : 1 ≤ d ∧ d ≤ 1000) (hx : x.natAbs < 10 ^ 100) (hu : 0 < u ∧ u < 10 ^ 100) :
    Calls Tryz.prog 36 #[.string (dec x), .string (dec u), .int .i64 d] w fun e w' => e = .returned (.string (dec ((x * 240000 + d * u) / (d * u * 2)))) ∧ Below w.heap.size w w' := by
  have hup : 0 < d * u := Int.mul_pos (by omega) hu.1
  have hdu : d * u ≤ 1000 * 10 ^ 100 := Int.mul_le_mul h0.2 (by omega) (by omega) (by decide)
  have D1 : Lib.nDigits x.natAbs ≤ 1000 := Nat.le_trans (nDigits_le _ 100 (by decide) hx) (by decide)
  have D2 : Lib.nDigits u.natAbs ≤ 1000 := Nat.le_trans (nDigits_le _ 100 (by decide) (by omega)) (by decide)
  have D3 : Lib.nDigits (d * u).natAbs ≤ 1000 := Nat.le_trans (nDigits_le _ 110 (by decide) (by omega)) (by decide)
  have D4 : Lib.nDigits (240000 * x).natAbs ≤ 1000 := Nat.le_trans (nDigits_le _ 110 (by decide) (by omega)) (by decide)
  have D5 : Lib.nDigits (240000 * x + d * u).natAbs ≤ 1000 := Nat.le_trans (nDigits_le _ 110 (by decide) (by omega)) (by decide)
  have D6 : Lib.nDigits (2 * (d * u)).natAbs ≤ 1000 := Nat.le_trans (nDigits_le _ 110 (by decide) (by omega)) (by decide)
  have HT1 := Lib.hid (fun W h => reftm_any d u W h (by omega) (by omega) D2)
  have HT2 := Lib.hid (fun W h => reftm_any 240000 x W h (by decide) (by decide) D1)
  have HA := Lib.hid (fun W h => refadd_any (240000 * x) (d * u) W h (by omega) (by omega))
  have HT3 := Lib.hid (fun W h => reftm_any 2 (d * u) W h (by decide) (by decide) D3)
  have HD := Lib.hid (fun W h => refdivmod_any (240000 * x + d * u) (2 * (d * u)) W h (by omega) D5 D6)
  rw [show x * 240000 + d * u = 240000 * x + d * u by rw [Int.mul_comm x], show d * u * 2 = 2 * (d * u) by rw [Int.mul_comm (d * u)]]
  obtain ⟨rq, hrq⟩ : ∃ s, s = dec ((240000 * x + d * u) / (2 * (d * u))) := ⟨_, rfl⟩
  obtain ⟨rr, hrr⟩ : ∃ s, s = dec ((240000 * x + d * u) % (2 * (d * u))) := ⟨_, rfl⟩
  obtain ⟨s1, hs1⟩ : ∃ s, s = dec (240000 * x + d * u) := ⟨_, rfl⟩
  obtain ⟨s2, hs2⟩ : ∃ s, s = dec (2 * (d * u)) := ⟨_, rfl⟩
  obtain ⟨s3, hs3⟩ : ∃ s, s = dec (d * u) := ⟨_, rfl⟩
  obtain ⟨s4, hs4⟩ : ∃ s, s = dec (240000 * x) := ⟨_, rfl⟩
  obtain ⟨sx, hsx⟩ : ∃ s, s = dec x := ⟨_, rfl⟩
  obtain ⟨su, hsu⟩ : ∃ s, s = dec u := ⟨_, rfl⟩
  rw [← hrq, ← hrr, ← hs1, ← hs2] at HD
  rw [← hs3, ← hs2] at HT3
  rw [← hs4, ← hs3, ← hs1] at HA
  rw [← hsx, ← hs4] at HT2
  rw [← hsu, ← hs3] at HT1
  rw [← hrq, ← hsx, ← hsu]
  have HT := Lib.hid ht
  clear hrq hrr hs1 hs2 hs3 hs4 hsx hsu ht hup hdu D1 D2 D3 D4 D5 D6 hx hu h0
  go_enter Tryz.func36, Tryz.ntmps36
  go_wp2_with fail
  refine (HT1.out _ HT.out).mono ?_
  rintro e w1 ⟨rfl, hb1⟩
  have HB1 := Lib.hid hb1
  clear hb1
  go_wp2_with fail
  refine (HT2.out _ (HT.out.below HB1.out)).mono ?_
  rintro e w2 ⟨rfl, hb2⟩
  have HB2 := Lib.hid (HB1.out.trans (hb2.mono HB1.out.size))
  clear hb2
  go_wp2_with fail
  refine (HA.out _ (HT.out.below HB2.out)).mono ?_
  rintro e w3 ⟨rfl, hb3⟩
  have HB3 := Lib.hid (HB2.out.trans (hb3.mono HB2.out.size))
  clear hb3
  go_wp2_with fail
  refine (HT3.out _ (HT.out.below HB3.out)).mono ?_
  rintro e w4 ⟨rfl, hb4⟩
  have HB4 := Lib.hid (HB3.out.trans (hb4.mono HB3.out.size))
  clear hb4
  go_wp2_with fail
  refine (HD.out _ (HT.out.below HB4.out)).mono ?_
  rintro e w5 ⟨rfl, hb5⟩
  have HB5 := Lib.hid (HB4.out.trans (hb5.mono HB4.out.size))
  clear hb5
  go_wp2
  go_ret
  exact ⟨rfl, HB5.out⟩
end Go.Proofs.YtplonkeipdbchaaGreatDoor
