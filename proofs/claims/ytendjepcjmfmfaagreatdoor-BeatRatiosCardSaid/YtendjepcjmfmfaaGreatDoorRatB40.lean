/- Part 40 of 42 of the proof of the law: contracts of the functions that it reaches, and plain facts. Conditions: those that each contract names. -/
import Derived.Test.YtendjepcjmfmfaaGreatDoorRatB39
import Derived.Test.YtendjepcjmfmfaaGreatDoorRatB32
namespace Go.Proofs.YtendjepcjmfmfaaGreatDoor
open Go.RowKit
theorem sd_neg {n : Int} {p p' : Nat} (hp : p = (-n).toNat) (hp' : p' = n.toNat) (h6 : -6000 ≤ n ∧ n ≤ 6000) (h : n < 0) : n < 0 ∧ IntKind.i64.wrap (-n) = (p : Int) ∧ IntKind.i64.wrap (0 - n) = (p : Int) ∧ max n (p : Int) = p ∧ p' = 0 :=
 ⟨h, by rw [IntWalk.i64_in _ (by omega)]; omega, by rw [IntWalk.i64_in _ (by omega)]; omega, by omega, by omega⟩
theorem sd_pos {n : Int} {p p' : Nat} (hp : p = (-n).toNat) (hp' : p' = n.toNat) (h6 : -6000 ≤ n ∧ n ≤ 6000) (h : 0 ≤ n) : ¬ n < 0 ∧ IntKind.i64.wrap (-n) = -n ∧ IntKind.i64.wrap (0 - n) = -n ∧ max n (-n) = p' ∧ p = 0 :=
 ⟨by omega, by rw [IntWalk.i64_in _ (by omega)], by rw [IntWalk.i64_in _ (by omega)]; omega, by omega, by omega⟩
def SdRel (w : World) (g : Nat) (a0 b0 a1 b1 a2 b2 x y z U T : Int) (sa sb sc sa' sb' sc' : Nat) (i l r : Value) (W : World) : Prop :=
 ∃ k : Nat, k ≤ 3 ∧ i = .int .i64 (k : Int) ∧ l = .string (dec (rsT U sa sb sc k)) ∧ r = .string (dec (rsT T sa' sb' sc' k)) ∧ Hp w [(w.heap.size, 49, [.int .i64 a0, .int .i64 b0, .int .i64 a1, .int .i64 b1, .int .i64 a2, .int .i64 b2]), (g, 57, [.int .i64 x, .int .i64 y, .int .i64 z])] W
set_option maxRecDepth 1000000 in
set_option maxHeartbeats 8000000 in
theorem lside_any (a0 b0 a1 b1 a2 b2 x y z D : Int) (n : Nat) (w : World) (ht : Tab w) (hn : n ≤ 128000001) (hS : ∀ q ∈ [(a0, b0), (a1, b1), (a2, b2)], Right q.1 q.2) (hp : prt [(a0, b0), (a1, b1), (a2, b2)] = some ([x, y, z], D)) :
  Calls Tryz.prog 21 #[.int .i64 (n : Int), szv a0 b0 a1 b1 a2 b2] w fun e w' => e = .returned (.int .i64 (sgn ((n : Int) ^ D.toNat * qsL x y z - qsR x y z D))) ∧ Below w.heap.size w w' := by
 obtain ⟨-, -, -, -, -, ⟨-, -, r3⟩, -, bx, by_, bz⟩ := prt_inv hS hp
 have HEX := Lib.hid (fun W => lexp_any a0 b0 a1 b1 a2 b2 x y z D W hS hp)
 obtain ⟨m, hmD⟩ : ∃ m : Nat, D = (m : Int) := ⟨D.toNat, by omega⟩
 have hm240 : m ≤ 240 := by omega
 have hDm : D.toNat = m := by omega
 obtain ⟨T, hT⟩ : ∃ T : Int, T = 1000000 ^ m := ⟨_, rfl⟩
 obtain ⟨U, hU⟩ : ∃ T : Int, T = (n : Int) ^ m := ⟨_, rfl⟩
 have hgoal : (n : Int) ^ D.toNat * qsL x y z - qsR x y z D = rsT U (-x).toNat (-y).toNat (-z).toNat 3 - rsT T x.toNat y.toNat z.toNat 3 := by
  show (n : Int) ^ D.toNat * rsT 1 _ _ _ 3 - rsT (1000000 ^ D.toNat) _ _ _ 3 = _
  rw [hDm, rsT_eq 1, rsT_eq U, Int.one_mul, hU, hT]
 rw [hgoal]
 have hpw := fun W h => power_any 1000000 m W h (by omega) (by rw [show Lib.nDigits (1000000 : Int).natAbs = 7 by decide +kernel]; omega) (by rw [show Lib.nDigits (1000000 : Int).natAbs = 7 by decide +kernel]; omega)
 rw [← hT, ← hmD] at hpw
 have hdn : Lib.nDigits (n : Int).natAbs ≤ 9 := nDigits_le _ 9 (by decide) (by rw [Int.natAbs_natCast]; exact Nat.lt_of_le_of_lt hn (by decide))
 have hpu := fun W h => power_any (n : Int) m W h (by omega) (Nat.le_trans (Nat.mul_le_mul hm240 hdn) (by decide)) (by omega)
 rw [← hU, ← hmD] at hpu
 obtain ⟨N, hN⟩ : ∃ x : Int, x = (n : Int) := ⟨_, rfl⟩
 have hof := fun W h => of_any (n : Int) (by omega) (by omega) W h
 rw [← hN] at hof hpu ⊢
 have HPW := Lib.hid hpw
 have HPU := Lib.hid hpu
 have HON := Lib.hid hof
 have HOF := Lib.hid (fun W h => of_any 1000000 (by decide) (by decide) W h)
 have HT := Lib.hid ht
 have hdT : Lib.nDigits T.natAbs ≤ 1681 := by
  have h1 := pow_digits 1000000 m
  rw [← hT, show Lib.nDigits (1000000 : Int).natAbs = 7 by decide +kernel] at h1
  omega
 have hdU : Lib.nDigits U.natAbs ≤ 2161 := by
  have h1 := pow_digits (n : Int) m
  rw [← hU] at h1
  have h2 := Nat.mul_le_mul hm240 hdn
  omega
 obtain ⟨sa, ha⟩ : ∃ a, a = (-x).toNat := ⟨_, rfl⟩
 obtain ⟨sb, hb⟩ : ∃ a, a = (-y).toNat := ⟨_, rfl⟩
 obtain ⟨sc, hc⟩ : ∃ a, a = (-z).toNat := ⟨_, rfl⟩
 obtain ⟨sa', ha'⟩ : ∃ a, a = x.toNat := ⟨_, rfl⟩
 obtain ⟨sb', hb'⟩ : ∃ a, a = y.toNat := ⟨_, rfl⟩
 obtain ⟨sc', hc'⟩ : ∃ a, a = z.toNat := ⟨_, rfl⟩
 rw [← ha, ← hb, ← hc, ← ha', ← hb', ← hc']
 have kL := fun k => rsT_digits U sa sb sc k (by omega) (by omega) (by omega)
 have kR := fun k => rsT_digits T sa' sb' sc' k (by omega) (by omega) (by omega)
 obtain ⟨S, hSS⟩ : ∃ S : Int, S = sgn (rsT U sa sb sc 3 - rsT T sa' sb' sc' 3) := ⟨_, rfl⟩
 have hcp : ∀ W, Tab W → Calls Tryz.prog 53 #[.string (dec (rsT U sa sb sc 3)), .string (dec (rsT T sa' sb' sc' 3))] W fun e W' => e = .returned (.int .i64 S) ∧ Below W.heap.size W W' := fun W _ => by
  refine (compare_any (rsT U sa sb sc 3) (rsT T sa' sb' sc' 3) W (by have := kL 3; omega) (by have := kR 3; omega)).mono ?_
  rintro e W' ⟨he, rfl⟩
  exact ⟨by rw [hSS]; exact he, Below.refl _ _⟩
 have HCP := Lib.hid hcp
 rw [← hSS]
 have SA0 := Lib.hid (sd_neg ha ha' bx)
 have SB0 := Lib.hid (sd_pos ha ha' bx)
 have PA0 := Lib.hid (fun W h => power_any 2 sa W h (by omega) (Nat.le_trans (Nat.mul_le_mul_left sa (nd1 (q := 2) (by decide))) (by omega)) (Nat.le_trans (nd1 (q := 2) (by decide)) (by decide)))
 have MA0 := Lib.hid (fun W h => mul_any (rsT U sa sb sc 0) (2 ^ sa) W h (by have := kL 0; omega) (by have := pow2_digits 2 sa (nd1 (by decide)) (by omega); omega))
 have PB0 := Lib.hid (fun W h => power_any 2 sa' W h (by omega) (Nat.le_trans (Nat.mul_le_mul_left sa' (nd1 (q := 2) (by decide))) (by omega)) (Nat.le_trans (nd1 (q := 2) (by decide)) (by decide)))
 have MB0 := Lib.hid (fun W h => mul_any (rsT T sa' sb' sc' 0) (2 ^ sa') W h (by have := kR 0; omega) (by have := pow2_digits 2 sa' (nd1 (by decide)) (by omega); omega))
 have OF0 := Lib.hid (fun W h => of_any 2 (by decide) (by decide) W h)
 have SA1 := Lib.hid (sd_neg hb hb' by_)
 have SB1 := Lib.hid (sd_pos hb hb' by_)
 have PA1 := Lib.hid (fun W h => power_any 3 sb W h (by omega) (Nat.le_trans (Nat.mul_le_mul_left sb (nd1 (q := 3) (by decide))) (by omega)) (Nat.le_trans (nd1 (q := 3) (by decide)) (by decide)))
 have MA1 := Lib.hid (fun W h => mul_any (rsT U sa sb sc 1) (3 ^ sb) W h (by have := kL 1; omega) (by have := pow2_digits 3 sb (nd1 (by decide)) (by omega); omega))
 have PB1 := Lib.hid (fun W h => power_any 3 sb' W h (by omega) (Nat.le_trans (Nat.mul_le_mul_left sb' (nd1 (q := 3) (by decide))) (by omega)) (Nat.le_trans (nd1 (q := 3) (by decide)) (by decide)))
 have MB1 := Lib.hid (fun W h => mul_any (rsT T sa' sb' sc' 1) (3 ^ sb') W h (by have := kR 1; omega) (by have := pow2_digits 3 sb' (nd1 (by decide)) (by omega); omega))
 have OF1 := Lib.hid (fun W h => of_any 3 (by decide) (by decide) W h)
 have SA2 := Lib.hid (sd_neg hc hc' bz)
 have SB2 := Lib.hid (sd_pos hc hc' bz)
 have PA2 := Lib.hid (fun W h => power_any 5 sc W h (by omega) (Nat.le_trans (Nat.mul_le_mul_left sc (nd1 (q := 5) (by decide))) (by omega)) (Nat.le_trans (nd1 (q := 5) (by decide)) (by decide)))
 have MA2 := Lib.hid (fun W h => mul_any (rsT U sa sb sc 2) (5 ^ sc) W h (by have := kL 2; omega) (by have := pow2_digits 5 sc (nd1 (by decide)) (by omega); omega))
 have PB2 := Lib.hid (fun W h => power_any 5 sc' W h (by omega) (Nat.le_trans (Nat.mul_le_mul_left sc' (nd1 (q := 5) (by decide))) (by omega)) (Nat.le_trans (nd1 (q := 5) (by decide)) (by decide)))
 have MB2 := Lib.hid (fun W h => mul_any (rsT T sa' sb' sc' 2) (5 ^ sc') W h (by have := kR 2; omega) (by have := pow2_digits 5 sc' (nd1 (by decide)) (by omega); omega))
 have OF2 := Lib.hid (fun W h => of_any 5 (by decide) (by decide) W h)
 have hm0 := (Hp.start w).new 49 [.int .i64 a0, .int .i64 b0, .int .i64 a1, .int .i64 b1, .int .i64 a2, .int .i64 b2]
 simp only [World.size_alloc, List.nil_append, List.cons_append] at hm0
 have HM0 := Lib.hid hm0
 obtain ⟨y0, y1, y2, y3, y4, y5⟩ := six_of (hm0.at_ 0 rfl)
 clear hm0 hgoal hpw hpu hof hmD hDm hm240 hT hU hdn hN hn hdT hdU ha hb hc ha' hb' hc' kL kR hcp hSS ht hS hp r3 bx by_ bz
 go_enter Tryz.func21, Tryz.ntmps21
 go_wp2_with fail
 refine (HEX.out _).mono ?_
 rintro e w1 ⟨rfl, hb1⟩
 have hm1 := (HM0.out.step hb1).new 57 [.int .i64 x, .int .i64 y, .int .i64 z]
 simp only [List.nil_append, List.cons_append] at hm1
 have HM1 := Lib.hid hm1
 clear hb1 HM0 y0 y1 y2 y3 y4 y5 hm1
 go_wp2_with fail
 refine (HON.out _ (HT.out.below HM1.out.below)).mono ?_
 rintro e w2 ⟨rfl, hb2⟩
 have HM2 := Lib.hid (HM1.out.step hb2)
 clear hb2 HM1
 go_wp2_with fail
 refine (HPU.out _ (HT.out.below HM2.out.below)).mono ?_
 rintro e w3 ⟨rfl, hb3⟩
 have HM3 := Lib.hid (HM2.out.step hb3)
 clear hb3 HM2
 go_wp2_with fail
 refine (HOF.out _ (HT.out.below HM3.out.below)).mono ?_
 rintro e w4 ⟨rfl, hb4⟩
 have HM4 := Lib.hid (HM3.out.step hb4)
 clear hb4 HM3
 go_wp2_with fail
 refine (HPW.out _ (HT.out.below HM4.out.below)).mono ?_
 rintro e w5 ⟨rfl, hb5⟩
 have HM5 := Lib.hid (HM4.out.step hb5)
 clear hb5 HM4
 go_wp2_with fail
 go_loopw [11, 7, 9] (fun i l r wr => SdRel w w1.heap.size a0 b0 a1 b1 a2 b2 x y z U T sa sb sc sa' sb' sc' i l r wr) (fun i _ _ _ => 3 - (intOf i).toNat)
 case atStart => exact ⟨0, by omega, rfl, rfl, rfl, HM5.out⟩
 case round =>
  obtain ⟨k, hk, rfl, rfl, rfl, hm⟩ := hrel
  have HM := Lib.hid hm
  clear hm HM5
  rcases (show k = 0 ∨ k = 1 ∨ k = 2 ∨ k = 3 by omega) with rfl | rfl | rfl | rfl
  ·clear hk
   by_cases hs : x < 0
   ·have HS := Lib.hid (SA0.out hs)
    clear hs
    go_upto_region 7 with fail
    refine wp_regionJ 19 #[false, false, false, false, false, false, false, false, false, false, false, false, false, false, false, false, false, false, false] (fun l a W => ∃ (m0 m1 m2 m3 m4 m5 m6 m7 m8 m9 m10 m11 m12 m13 m14 m15 m16 m17 m18 : Bool) (g : Nat), l = #[m0, m1, m2, m3, m4, m5, m6, m7, m8, m9, m10, m11, m12, m13, m14, m15, m16, m17, m18] ∧ a = ({ tmps := #[.int .i64 N, szv a0 b0 a1 b1 a2 b2, undef, .pointer (some ⟨w.heap.size, 0, none⟩), .int .i64 0, .pointer (some ⟨w1.heap.size, 0, none⟩), .int .i64 D, .string (dec (rsT U sa sb sc 0)), .int .i64 0, .string (dec (rsT T sa' sb' sc' 0)), .int .i64 0, .int .i64 0, cwX m17 (.string (dec (2 ^ sa))) (u12), cwX m18 (.int .i64 0) (u13), .tuple #[.agg #[.int .i64 x, .int .i64 y, .int .i64 z], .int .i64 D], .agg #[.int .i64 a0, .int .i64 b0, .int .i64 a1, .int .i64 b1, .int .i64 a2, .int .i64 b2], .tuple #[.agg #[.int .i64 x, .int .i64 y, .int .i64 z], .int .i64 D], .agg #[.int .i64 x, .int .i64 y, .int .i64 z], .int .i64 D, .tuple #[.string (dec U), .int .i64 0], .int .i64 N, .string (dec N), .int .i64 D, .tuple #[.string (dec U), .int .i64 0], .string (dec U), .int .i64 0, .tuple #[.string (dec T), .int .i64 0], .string (dec 1000000), .int .i64 D, .tuple #[.string (dec T), .int .i64 0], .string (dec T), .int .i64 0, .int .i64 0, .bool true, u34, u35, cwX m14 (.tuple #[.string (dec (2 ^ sa)), .int .i64 0]) (u36), cwX m0 (.slice (some ⟨g, 0, none⟩) 3 3) (u37), cwX m1 (.int .i64 0) (u38), cwX m2 (.pointer (some ⟨g, 0, none⟩)) (u39), cwX m3 (.int .i64 2) (u40), cwX m4 (.string (dec 2)) (u41), cwX m5 (.int .i64 0) (u42), cwX m6 (.pointer (some ⟨w1.heap.size, 0, none⟩)) (u43), cwX m7 (.int .i64 x) (u44), cwX m8 (.int .i64 0) (u45), cwX m9 (.pointer (some ⟨w1.heap.size, 0, none⟩)) (u46), cwX m10 (.int .i64 x) (u47), cwX m11 (.int .i64 ((sa : Nat) : Int)) (u48), cwX m12 (.int .i64 ((sa : Nat) : Int)) (u49), cwX m13 (.tuple #[.string (dec (2 ^ sa)), .int .i64 0]) (u50), cwX m15 (.string (dec (2 ^ sa))) (u51), cwX m16 (.int .i64 0) (u52), u53, u54, u55, u56, u57, u58, u59, u60, u61, u62, undef, undef, undef], defers := [] } : Act) ∧ (m2 = true → m0 = true) ∧ Hp w (bif m0 then [(w.heap.size, 49, [.int .i64 a0, .int .i64 b0, .int .i64 a1, .int .i64 b1, .int .i64 a2, .int .i64 b2]), (w1.heap.size, 57, [.int .i64 x, .int .i64 y, .int .i64 z])] ++ [(g, 3, [.int .i64 2, .int .i64 3, .int .i64 5])] else [(w.heap.size, 49, [.int .i64 a0, .int .i64 b0, .int .i64 a1, .int .i64 b1, .int .i64 a2, .int .i64 b2]), (w1.heap.size, 57, [.int .i64 x, .int .i64 y, .int .i64 z])]) W) (by kernel_rfl) (by kernel_rfl) (by kernel_rfl) (by kernel_rfl) ?_ ?_ ?_ ?_
    ·rintro l a W ⟨m0, m1, m2, m3, m4, m5, m6, m7, m8, m9, m10, m11, m12, m13, m14, m15, m16, m17, m18, g, rfl, _⟩
     rfl
    ·exact ⟨false, false, false, false, false, false, false, false, false, false, false, false, false, false, false, false, false, false, false, 0, rfl, rfl, fun h => absurd h (by simp), HM.out.drew⟩
    ·rintro l a W i o ⟨m0, m1, m2, m3, m4, m5, m6, m7, m8, m9, m10, m11, m12, m13, m14, m15, m16, m17, m18, g, rfl, rfl, hi0, hm⟩ ho hun hall K hK
     have hi : i < 19 := (Array.getElem?_eq_some_iff.1 ho).1
     have HM := Lib.hid hm
     have HI := Lib.hid hi0
     clear hm hi0
     rcases (show i = 0 ∨ i = 1 ∨ i = 2 ∨ i = 3 ∨ i = 4 ∨ i = 5 ∨ i = 6 ∨ i = 7 ∨ i = 8 ∨ i = 9 ∨ i = 10 ∨ i = 11 ∨ i = 12 ∨ i = 13 ∨ i = 14 ∨ i = 15 ∨ i = 16 ∨ i = 17 ∨ i = 18 by omega) with rfl | rfl | rfl | rfl | rfl | rfl | rfl | rfl | rfl | rfl | rfl | rfl | rfl | rfl | rfl | rfl | rfl | rfl | rfl
     ·cases ho
      simp at hun; subst hun
      clear hall hi
      obtain rfl : m2 = false := by
       cases m2
       ·rfl
       ·exact absurd (HI.out rfl) (by simp)
      go_simp
      exact hK.out _ _ ⟨true, m1, false, m3, m4, m5, m6, m7, m8, m9, m10, m11, m12, m13, m14, m15, m16, m17, m18, W.heap.size, rfl, rfl, by have h0 := HI.out; exact (fun e => by first | rfl | exact h0 e | cases e), HM.out.new _ _⟩
     ·cases ho
      simp at hun; subst hun
      clear hall hi
      go_simp
      exact hK.out _ _ ⟨m0, true, m2, m3, m4, m5, m6, m7, m8, m9, m10, m11, m12, m13, m14, m15, m16, m17, m18, g, rfl, rfl, by have h0 := HI.out; exact (fun e => by first | rfl | exact h0 e | cases e), HM.out⟩
     ·cases ho
      cases (getBX hall 0 rfl : m0 = true)
      cases (getBX hall 1 rfl : m1 = true)
      simp at hun; subst hun
      clear hall hi
      go_simp
      exact hK.out _ _ ⟨true, true, true, m3, m4, m5, m6, m7, m8, m9, m10, m11, m12, m13, m14, m15, m16, m17, m18, g, rfl, rfl, by have h0 := HI.out; exact (fun e => by first | rfl | exact h0 e | cases e), HM.out⟩
     ·cases ho
      cases (getBX hall 2 rfl : m2 = true)
      obtain rfl : m0 = true := HI.out rfl
      simp at hun; subst hun
      clear hall hi
      obtain ⟨c0, c1, c2⟩ := three_of (HM.out.at_ 2 rfl)
      go_simp
      exact hK.out _ _ ⟨true, m1, true, true, m4, m5, m6, m7, m8, m9, m10, m11, m12, m13, m14, m15, m16, m17, m18, g, rfl, rfl, by have h0 := HI.out; exact (fun e => by first | rfl | exact h0 e | cases e), HM.out⟩
     ·cases ho
      cases (getBX hall 3 rfl : m3 = true)
      simp at hun; subst hun
      clear hall hi
      go_simp
      refine (OF0.out _ (HT.out.below HM.out.below)).mono ?_
      rintro e W' ⟨rfl, hb⟩
      exact hK.out _ _ ⟨m0, m1, m2, true, true, m5, m6, m7, m8, m9, m10, m11, m12, m13, m14, m15, m16, m17, m18, g, rfl, rfl, by have h0 := HI.out; exact (fun e => by first | rfl | exact h0 e | cases e), HM.out.step hb⟩
     ·cases ho
      simp at hun; subst hun
      clear hall hi
      go_simp
      exact hK.out _ _ ⟨m0, m1, m2, m3, m4, true, m6, m7, m8, m9, m10, m11, m12, m13, m14, m15, m16, m17, m18, g, rfl, rfl, by have h0 := HI.out; exact (fun e => by first | rfl | exact h0 e | cases e), HM.out⟩
     ·cases ho
      cases (getBX hall 5 rfl : m5 = true)
      simp at hun; subst hun
      clear hall hi
      go_simp
      exact hK.out _ _ ⟨m0, m1, m2, m3, m4, true, true, m7, m8, m9, m10, m11, m12, m13, m14, m15, m16, m17, m18, g, rfl, rfl, by have h0 := HI.out; exact (fun e => by first | rfl | exact h0 e | cases e), HM.out⟩
     ·cases ho
      cases (getBX hall 6 rfl : m6 = true)
      simp at hun; subst hun
      clear hall hi
      obtain ⟨c0, c1, c2⟩ := three_of (show Blk W w1.heap.size 57 [.int .i64 x, .int .i64 y, .int .i64 z] by cases m0 <;> exact HM.out.at_ 1 rfl)
      go_simp
      exact hK.out _ _ ⟨m0, m1, m2, m3, m4, m5, true, true, m8, m9, m10, m11, m12, m13, m14, m15, m16, m17, m18, g, rfl, rfl, by have h0 := HI.out; exact (fun e => by first | rfl | exact h0 e | cases e), HM.out⟩
     ·cases ho
      simp at hun; subst hun
      clear hall hi
      go_simp
      exact hK.out _ _ ⟨m0, m1, m2, m3, m4, m5, m6, m7, true, m9, m10, m11, m12, m13, m14, m15, m16, m17, m18, g, rfl, rfl, by have h0 := HI.out; exact (fun e => by first | rfl | exact h0 e | cases e), HM.out⟩
     ·cases ho
      cases (getBX hall 8 rfl : m8 = true)
      simp at hun; subst hun
      clear hall hi
      go_simp
      exact hK.out _ _ ⟨m0, m1, m2, m3, m4, m5, m6, m7, true, true, m10, m11, m12, m13, m14, m15, m16, m17, m18, g, rfl, rfl, by have h0 := HI.out; exact (fun e => by first | rfl | exact h0 e | cases e), HM.out⟩
     ·cases ho
      cases (getBX hall 9 rfl : m9 = true)
      simp at hun; subst hun
      clear hall hi
      obtain ⟨c0, c1, c2⟩ := three_of (show Blk W w1.heap.size 57 [.int .i64 x, .int .i64 y, .int .i64 z] by cases m0 <;> exact HM.out.at_ 1 rfl)
      go_simp
      exact hK.out _ _ ⟨m0, m1, m2, m3, m4, m5, m6, m7, m8, true, true, m11, m12, m13, m14, m15, m16, m17, m18, g, rfl, rfl, by have h0 := HI.out; exact (fun e => by first | rfl | exact h0 e | cases e), HM.out⟩
     ·cases ho
      cases (getBX hall 10 rfl : m10 = true)
      simp at hun; subst hun
      clear hall hi
      obtain ⟨f1, f2, f3, f4, f5⟩ := HS.out
      go_simp
      exact hK.out _ _ ⟨m0, m1, m2, m3, m4, m5, m6, m7, m8, m9, true, true, m12, m13, m14, m15, m16, m17, m18, g, rfl, rfl, by have h0 := HI.out; exact (fun e => by first | rfl | exact h0 e | cases e), HM.out⟩
     ·cases ho
      cases (getBX hall 7 rfl : m7 = true)
      cases (getBX hall 11 rfl : m11 = true)
      simp at hun; subst hun
      clear hall hi
      obtain ⟨f1, f2, f3, f4, f5⟩ := HS.out
      go_simp
      exact hK.out _ _ ⟨m0, m1, m2, m3, m4, m5, m6, true, m8, m9, m10, true, true, m13, m14, m15, m16, m17, m18, g, rfl, rfl, by have h0 := HI.out; exact (fun e => by first | rfl | exact h0 e | cases e), HM.out⟩
     ·cases ho
      cases (getBX hall 4 rfl : m4 = true)
      cases (getBX hall 12 rfl : m12 = true)
      simp at hun; subst hun
      clear hall hi
      go_simp
      refine (PA0.out _ (HT.out.below HM.out.below)).mono ?_
      rintro e W' ⟨rfl, hb⟩
      exact hK.out _ _ ⟨m0, m1, m2, m3, true, m5, m6, m7, m8, m9, m10, m11, true, true, m14, m15, m16, m17, m18, g, rfl, rfl, by have h0 := HI.out; exact (fun e => by first | rfl | exact h0 e | cases e), HM.out.step hb⟩
     ·cases ho
      cases (getBX hall 13 rfl : m13 = true)
      simp at hun; subst hun
      clear hall hi
      go_simp
      exact hK.out _ _ ⟨m0, m1, m2, m3, m4, m5, m6, m7, m8, m9, m10, m11, m12, true, true, m15, m16, m17, m18, g, rfl, rfl, by have h0 := HI.out; exact (fun e => by first | rfl | exact h0 e | cases e), HM.out⟩
     ·cases ho
      cases (getBX hall 14 rfl : m14 = true)
      simp at hun; subst hun
      clear hall hi
      go_simp
      exact hK.out _ _ ⟨m0, m1, m2, m3, m4, m5, m6, m7, m8, m9, m10, m11, m12, m13, true, true, m16, m17, m18, g, rfl, rfl, by have h0 := HI.out; exact (fun e => by first | rfl | exact h0 e | cases e), HM.out⟩
     ·cases ho
      cases (getBX hall 14 rfl : m14 = true)
      simp at hun; subst hun
      clear hall hi
      go_simp
      exact hK.out _ _ ⟨m0, m1, m2, m3, m4, m5, m6, m7, m8, m9, m10, m11, m12, m13, true, m15, true, m17, m18, g, rfl, rfl, by have h0 := HI.out; exact (fun e => by first | rfl | exact h0 e | cases e), HM.out⟩
     ·cases ho
      cases (getBX hall 15 rfl : m15 = true)
      simp at hun; subst hun
      clear hall hi
      go_simp
      exact hK.out _ _ ⟨m0, m1, m2, m3, m4, m5, m6, m7, m8, m9, m10, m11, m12, m13, m14, true, m16, true, m18, g, rfl, rfl, by have h0 := HI.out; exact (fun e => by first | rfl | exact h0 e | cases e), HM.out⟩
     ·cases ho
      cases (getBX hall 16 rfl : m16 = true)
      simp at hun; subst hun
      clear hall hi
      go_simp
      exact hK.out _ _ ⟨m0, m1, m2, m3, m4, m5, m6, m7, m8, m9, m10, m11, m12, m13, m14, m15, true, m17, true, g, rfl, rfl, by have h0 := HI.out; exact (fun e => by first | rfl | exact h0 e | cases e), HM.out⟩
    ·rintro l a W ⟨m0, m1, m2, m3, m4, m5, m6, m7, m8, m9, m10, m11, m12, m13, m14, m15, m16, m17, m18, g, rfl, rfl, _, hm⟩ hall
     cases (hall 0 (by decide) : m0 = true)
     cases (hall 1 (by decide) : m1 = true)
     cases (hall 2 (by decide) : m2 = true)
     cases (hall 3 (by decide) : m3 = true)
     cases (hall 4 (by decide) : m4 = true)
     cases (hall 5 (by decide) : m5 = true)
     cases (hall 6 (by decide) : m6 = true)
     cases (hall 7 (by decide) : m7 = true)
     cases (hall 8 (by decide) : m8 = true)
     cases (hall 9 (by decide) : m9 = true)
     cases (hall 10 (by decide) : m10 = true)
     cases (hall 11 (by decide) : m11 = true)
     cases (hall 12 (by decide) : m12 = true)
     cases (hall 13 (by decide) : m13 = true)
     cases (hall 14 (by decide) : m14 = true)
     cases (hall 15 (by decide) : m15 = true)
     cases (hall 16 (by decide) : m16 = true)
     cases (hall 17 (by decide) : m17 = true)
     cases (hall 18 (by decide) : m18 = true)
     clear hall
     have HQ := Lib.hid (show Hp w [(w.heap.size, 49, [.int .i64 a0, .int .i64 b0, .int .i64 a1, .int .i64 b1, .int .i64 a2, .int .i64 b2]), (w1.heap.size, 57, [.int .i64 x, .int .i64 y, .int .i64 z])] _ from hm.sub (List.sublist_append_left _ _))
     clear hm HM
     dsimp only [cwX, cond_true]
     obtain ⟨c0, c1, c2⟩ := three_of (HQ.out.at_ 1 rfl)
     have hs := HS.out.1
     go_wp2_with fail
     refine (MA0.out _ (HT.out.below HQ.out.below)).mono ?_
     rintro e w6 ⟨rfl, hb6⟩
     have HQ2 := Lib.hid (HQ.out.step hb6)
     clear hb6 HQ c0 c1 c2 hs
     go_wp2_with fail
     go_roundw
     case rel => exact ⟨1, by omega, rfl, rfl, by rw [rsT_z0 _ _ HS.out.2.2.2.2], HQ2.out⟩
     case measure => simp [intOf]
   ·have HS := Lib.hid (SB0.out (by omega))
    clear hs
    go_upto_region 7 with fail
    refine wp_regionJ 19 #[false, false, false, false, false, false, false, false, false, false, false, false, false, false, false, false, false, false, false] (fun l a W => ∃ (m0 m1 m2 m3 m4 m5 m6 m7 m8 m9 m10 m11 m12 m13 m14 m15 m16 m17 m18 : Bool) (g : Nat), l = #[m0, m1, m2, m3, m4, m5, m6, m7, m8, m9, m10, m11, m12, m13, m14, m15, m16, m17, m18] ∧ a = ({ tmps := #[.int .i64 N, szv a0 b0 a1 b1 a2 b2, undef, .pointer (some ⟨w.heap.size, 0, none⟩), .int .i64 0, .pointer (some ⟨w1.heap.size, 0, none⟩), .int .i64 D, .string (dec (rsT U sa sb sc 0)), .int .i64 0, .string (dec (rsT T sa' sb' sc' 0)), .int .i64 0, .int .i64 0, cwX m17 (.string (dec (2 ^ sa'))) (u12), cwX m18 (.int .i64 0) (u13), .tuple #[.agg #[.int .i64 x, .int .i64 y, .int .i64 z], .int .i64 D], .agg #[.int .i64 a0, .int .i64 b0, .int .i64 a1, .int .i64 b1, .int .i64 a2, .int .i64 b2], .tuple #[.agg #[.int .i64 x, .int .i64 y, .int .i64 z], .int .i64 D], .agg #[.int .i64 x, .int .i64 y, .int .i64 z], .int .i64 D, .tuple #[.string (dec U), .int .i64 0], .int .i64 N, .string (dec N), .int .i64 D, .tuple #[.string (dec U), .int .i64 0], .string (dec U), .int .i64 0, .tuple #[.string (dec T), .int .i64 0], .string (dec 1000000), .int .i64 D, .tuple #[.string (dec T), .int .i64 0], .string (dec T), .int .i64 0, .int .i64 0, .bool true, u34, u35, cwX m14 (.tuple #[.string (dec (2 ^ sa')), .int .i64 0]) (u36), cwX m0 (.slice (some ⟨g, 0, none⟩) 3 3) (u37), cwX m1 (.int .i64 0) (u38), cwX m2 (.pointer (some ⟨g, 0, none⟩)) (u39), cwX m3 (.int .i64 2) (u40), cwX m4 (.string (dec 2)) (u41), cwX m5 (.int .i64 0) (u42), cwX m6 (.pointer (some ⟨w1.heap.size, 0, none⟩)) (u43), cwX m7 (.int .i64 x) (u44), cwX m8 (.int .i64 0) (u45), cwX m9 (.pointer (some ⟨w1.heap.size, 0, none⟩)) (u46), cwX m10 (.int .i64 x) (u47), cwX m11 (.int .i64 (-x)) (u48), cwX m12 (.int .i64 ((sa' : Nat) : Int)) (u49), cwX m13 (.tuple #[.string (dec (2 ^ sa')), .int .i64 0]) (u50), cwX m15 (.string (dec (2 ^ sa'))) (u51), cwX m16 (.int .i64 0) (u52), u53, u54, u55, u56, u57, u58, u59, u60, u61, u62, undef, undef, undef], defers := [] } : Act) ∧ (m2 = true → m0 = true) ∧ Hp w (bif m0 then [(w.heap.size, 49, [.int .i64 a0, .int .i64 b0, .int .i64 a1, .int .i64 b1, .int .i64 a2, .int .i64 b2]), (w1.heap.size, 57, [.int .i64 x, .int .i64 y, .int .i64 z])] ++ [(g, 3, [.int .i64 2, .int .i64 3, .int .i64 5])] else [(w.heap.size, 49, [.int .i64 a0, .int .i64 b0, .int .i64 a1, .int .i64 b1, .int .i64 a2, .int .i64 b2]), (w1.heap.size, 57, [.int .i64 x, .int .i64 y, .int .i64 z])]) W) (by kernel_rfl) (by kernel_rfl) (by kernel_rfl) (by kernel_rfl) ?_ ?_ ?_ ?_
    ·rintro l a W ⟨m0, m1, m2, m3, m4, m5, m6, m7, m8, m9, m10, m11, m12, m13, m14, m15, m16, m17, m18, g, rfl, _⟩
     rfl
    ·exact ⟨false, false, false, false, false, false, false, false, false, false, false, false, false, false, false, false, false, false, false, 0, rfl, rfl, fun h => absurd h (by simp), HM.out.drew⟩
    ·rintro l a W i o ⟨m0, m1, m2, m3, m4, m5, m6, m7, m8, m9, m10, m11, m12, m13, m14, m15, m16, m17, m18, g, rfl, rfl, hi0, hm⟩ ho hun hall K hK
     have hi : i < 19 := (Array.getElem?_eq_some_iff.1 ho).1
     have HM := Lib.hid hm
     have HI := Lib.hid hi0
     clear hm hi0
     rcases (show i = 0 ∨ i = 1 ∨ i = 2 ∨ i = 3 ∨ i = 4 ∨ i = 5 ∨ i = 6 ∨ i = 7 ∨ i = 8 ∨ i = 9 ∨ i = 10 ∨ i = 11 ∨ i = 12 ∨ i = 13 ∨ i = 14 ∨ i = 15 ∨ i = 16 ∨ i = 17 ∨ i = 18 by omega) with rfl | rfl | rfl | rfl | rfl | rfl | rfl | rfl | rfl | rfl | rfl | rfl | rfl | rfl | rfl | rfl | rfl | rfl | rfl
     ·cases ho
      simp at hun; subst hun
      clear hall hi
      obtain rfl : m2 = false := by
       cases m2
       ·rfl
       ·exact absurd (HI.out rfl) (by simp)
      go_simp
      exact hK.out _ _ ⟨true, m1, false, m3, m4, m5, m6, m7, m8, m9, m10, m11, m12, m13, m14, m15, m16, m17, m18, W.heap.size, rfl, rfl, by have h0 := HI.out; exact (fun e => by first | rfl | exact h0 e | cases e), HM.out.new _ _⟩
     ·cases ho
      simp at hun; subst hun
      clear hall hi
      go_simp
      exact hK.out _ _ ⟨m0, true, m2, m3, m4, m5, m6, m7, m8, m9, m10, m11, m12, m13, m14, m15, m16, m17, m18, g, rfl, rfl, by have h0 := HI.out; exact (fun e => by first | rfl | exact h0 e | cases e), HM.out⟩
     ·cases ho
      cases (getBX hall 0 rfl : m0 = true)
      cases (getBX hall 1 rfl : m1 = true)
      simp at hun; subst hun
      clear hall hi
      go_simp
      exact hK.out _ _ ⟨true, true, true, m3, m4, m5, m6, m7, m8, m9, m10, m11, m12, m13, m14, m15, m16, m17, m18, g, rfl, rfl, by have h0 := HI.out; exact (fun e => by first | rfl | exact h0 e | cases e), HM.out⟩
     ·cases ho
      cases (getBX hall 2 rfl : m2 = true)
      obtain rfl : m0 = true := HI.out rfl
      simp at hun; subst hun
      clear hall hi
      obtain ⟨c0, c1, c2⟩ := three_of (HM.out.at_ 2 rfl)
      go_simp
      exact hK.out _ _ ⟨true, m1, true, true, m4, m5, m6, m7, m8, m9, m10, m11, m12, m13, m14, m15, m16, m17, m18, g, rfl, rfl, by have h0 := HI.out; exact (fun e => by first | rfl | exact h0 e | cases e), HM.out⟩
     ·cases ho
      cases (getBX hall 3 rfl : m3 = true)
      simp at hun; subst hun
      clear hall hi
      go_simp
      refine (OF0.out _ (HT.out.below HM.out.below)).mono ?_
      rintro e W' ⟨rfl, hb⟩
      exact hK.out _ _ ⟨m0, m1, m2, true, true, m5, m6, m7, m8, m9, m10, m11, m12, m13, m14, m15, m16, m17, m18, g, rfl, rfl, by have h0 := HI.out; exact (fun e => by first | rfl | exact h0 e | cases e), HM.out.step hb⟩
     ·cases ho
      simp at hun; subst hun
      clear hall hi
      go_simp
      exact hK.out _ _ ⟨m0, m1, m2, m3, m4, true, m6, m7, m8, m9, m10, m11, m12, m13, m14, m15, m16, m17, m18, g, rfl, rfl, by have h0 := HI.out; exact (fun e => by first | rfl | exact h0 e | cases e), HM.out⟩
     ·cases ho
      cases (getBX hall 5 rfl : m5 = true)
      simp at hun; subst hun
      clear hall hi
      go_simp
      exact hK.out _ _ ⟨m0, m1, m2, m3, m4, true, true, m7, m8, m9, m10, m11, m12, m13, m14, m15, m16, m17, m18, g, rfl, rfl, by have h0 := HI.out; exact (fun e => by first | rfl | exact h0 e | cases e), HM.out⟩
     ·cases ho
      cases (getBX hall 6 rfl : m6 = true)
      simp at hun; subst hun
      clear hall hi
      obtain ⟨c0, c1, c2⟩ := three_of (show Blk W w1.heap.size 57 [.int .i64 x, .int .i64 y, .int .i64 z] by cases m0 <;> exact HM.out.at_ 1 rfl)
      go_simp
      exact hK.out _ _ ⟨m0, m1, m2, m3, m4, m5, true, true, m8, m9, m10, m11, m12, m13, m14, m15, m16, m17, m18, g, rfl, rfl, by have h0 := HI.out; exact (fun e => by first | rfl | exact h0 e | cases e), HM.out⟩
     ·cases ho
      simp at hun; subst hun
      clear hall hi
      go_simp
      exact hK.out _ _ ⟨m0, m1, m2, m3, m4, m5, m6, m7, true, m9, m10, m11, m12, m13, m14, m15, m16, m17, m18, g, rfl, rfl, by have h0 := HI.out; exact (fun e => by first | rfl | exact h0 e | cases e), HM.out⟩
     ·cases ho
      cases (getBX hall 8 rfl : m8 = true)
      simp at hun; subst hun
      clear hall hi
      go_simp
      exact hK.out _ _ ⟨m0, m1, m2, m3, m4, m5, m6, m7, true, true, m10, m11, m12, m13, m14, m15, m16, m17, m18, g, rfl, rfl, by have h0 := HI.out; exact (fun e => by first | rfl | exact h0 e | cases e), HM.out⟩
     ·cases ho
      cases (getBX hall 9 rfl : m9 = true)
      simp at hun; subst hun
      clear hall hi
      obtain ⟨c0, c1, c2⟩ := three_of (show Blk W w1.heap.size 57 [.int .i64 x, .int .i64 y, .int .i64 z] by cases m0 <;> exact HM.out.at_ 1 rfl)
      go_simp
      exact hK.out _ _ ⟨m0, m1, m2, m3, m4, m5, m6, m7, m8, true, true, m11, m12, m13, m14, m15, m16, m17, m18, g, rfl, rfl, by have h0 := HI.out; exact (fun e => by first | rfl | exact h0 e | cases e), HM.out⟩
     ·cases ho
      cases (getBX hall 10 rfl : m10 = true)
      simp at hun; subst hun
      clear hall hi
      obtain ⟨f1, f2, f3, f4, f5⟩ := HS.out
      go_simp
      exact hK.out _ _ ⟨m0, m1, m2, m3, m4, m5, m6, m7, m8, m9, true, true, m12, m13, m14, m15, m16, m17, m18, g, rfl, rfl, by have h0 := HI.out; exact (fun e => by first | rfl | exact h0 e | cases e), HM.out⟩
     ·cases ho
      cases (getBX hall 7 rfl : m7 = true)
      cases (getBX hall 11 rfl : m11 = true)
      simp at hun; subst hun
      clear hall hi
      obtain ⟨f1, f2, f3, f4, f5⟩ := HS.out
      go_simp
      exact hK.out _ _ ⟨m0, m1, m2, m3, m4, m5, m6, true, m8, m9, m10, true, true, m13, m14, m15, m16, m17, m18, g, rfl, rfl, by have h0 := HI.out; exact (fun e => by first | rfl | exact h0 e | cases e), HM.out⟩
     ·cases ho
      cases (getBX hall 4 rfl : m4 = true)
      cases (getBX hall 12 rfl : m12 = true)
      simp at hun; subst hun
      clear hall hi
      go_simp
      refine (PB0.out _ (HT.out.below HM.out.below)).mono ?_
      rintro e W' ⟨rfl, hb⟩
      exact hK.out _ _ ⟨m0, m1, m2, m3, true, m5, m6, m7, m8, m9, m10, m11, true, true, m14, m15, m16, m17, m18, g, rfl, rfl, by have h0 := HI.out; exact (fun e => by first | rfl | exact h0 e | cases e), HM.out.step hb⟩
     ·cases ho
      cases (getBX hall 13 rfl : m13 = true)
      simp at hun; subst hun
      clear hall hi
      go_simp
      exact hK.out _ _ ⟨m0, m1, m2, m3, m4, m5, m6, m7, m8, m9, m10, m11, m12, true, true, m15, m16, m17, m18, g, rfl, rfl, by have h0 := HI.out; exact (fun e => by first | rfl | exact h0 e | cases e), HM.out⟩
     ·cases ho
      cases (getBX hall 14 rfl : m14 = true)
      simp at hun; subst hun
      clear hall hi
      go_simp
      exact hK.out _ _ ⟨m0, m1, m2, m3, m4, m5, m6, m7, m8, m9, m10, m11, m12, m13, true, true, m16, m17, m18, g, rfl, rfl, by have h0 := HI.out; exact (fun e => by first | rfl | exact h0 e | cases e), HM.out⟩
     ·cases ho
      cases (getBX hall 14 rfl : m14 = true)
      simp at hun; subst hun
      clear hall hi
      go_simp
      exact hK.out _ _ ⟨m0, m1, m2, m3, m4, m5, m6, m7, m8, m9, m10, m11, m12, m13, true, m15, true, m17, m18, g, rfl, rfl, by have h0 := HI.out; exact (fun e => by first | rfl | exact h0 e | cases e), HM.out⟩
     ·cases ho
      cases (getBX hall 15 rfl : m15 = true)
      simp at hun; subst hun
      clear hall hi
      go_simp
      exact hK.out _ _ ⟨m0, m1, m2, m3, m4, m5, m6, m7, m8, m9, m10, m11, m12, m13, m14, true, m16, true, m18, g, rfl, rfl, by have h0 := HI.out; exact (fun e => by first | rfl | exact h0 e | cases e), HM.out⟩
     ·cases ho
      cases (getBX hall 16 rfl : m16 = true)
      simp at hun; subst hun
      clear hall hi
      go_simp
      exact hK.out _ _ ⟨m0, m1, m2, m3, m4, m5, m6, m7, m8, m9, m10, m11, m12, m13, m14, m15, true, m17, true, g, rfl, rfl, by have h0 := HI.out; exact (fun e => by first | rfl | exact h0 e | cases e), HM.out⟩
    ·rintro l a W ⟨m0, m1, m2, m3, m4, m5, m6, m7, m8, m9, m10, m11, m12, m13, m14, m15, m16, m17, m18, g, rfl, rfl, _, hm⟩ hall
     cases (hall 0 (by decide) : m0 = true)
     cases (hall 1 (by decide) : m1 = true)
     cases (hall 2 (by decide) : m2 = true)
     cases (hall 3 (by decide) : m3 = true)
     cases (hall 4 (by decide) : m4 = true)
     cases (hall 5 (by decide) : m5 = true)
     cases (hall 6 (by decide) : m6 = true)
     cases (hall 7 (by decide) : m7 = true)
     cases (hall 8 (by decide) : m8 = true)
     cases (hall 9 (by decide) : m9 = true)
     cases (hall 10 (by decide) : m10 = true)
     cases (hall 11 (by decide) : m11 = true)
     cases (hall 12 (by decide) : m12 = true)
     cases (hall 13 (by decide) : m13 = true)
     cases (hall 14 (by decide) : m14 = true)
     cases (hall 15 (by decide) : m15 = true)
     cases (hall 16 (by decide) : m16 = true)
     cases (hall 17 (by decide) : m17 = true)
     cases (hall 18 (by decide) : m18 = true)
     clear hall
     have HQ := Lib.hid (show Hp w [(w.heap.size, 49, [.int .i64 a0, .int .i64 b0, .int .i64 a1, .int .i64 b1, .int .i64 a2, .int .i64 b2]), (w1.heap.size, 57, [.int .i64 x, .int .i64 y, .int .i64 z])] _ from hm.sub (List.sublist_append_left _ _))
     clear hm HM
     dsimp only [cwX, cond_true]
     obtain ⟨c0, c1, c2⟩ := three_of (HQ.out.at_ 1 rfl)
     have hs := HS.out.1
     go_wp2_with fail
     refine (MB0.out _ (HT.out.below HQ.out.below)).mono ?_
     rintro e w6 ⟨rfl, hb6⟩
     have HQ2 := Lib.hid (HQ.out.step hb6)
     clear hb6 HQ c0 c1 c2 hs
     go_wp2_with fail
     go_roundw
     case rel => exact ⟨1, by omega, rfl, by rw [rsT_z0 _ _ HS.out.2.2.2.2], rfl, HQ2.out⟩
     case measure => simp [intOf]
  ·clear hk
   by_cases hs : y < 0
   ·have HS := Lib.hid (SA1.out hs)
    clear hs
    go_upto_region 7 with fail
    refine wp_regionJ 19 #[false, false, false, false, false, false, false, false, false, false, false, false, false, false, false, false, false, false, false] (fun l a W => ∃ (m0 m1 m2 m3 m4 m5 m6 m7 m8 m9 m10 m11 m12 m13 m14 m15 m16 m17 m18 : Bool) (g : Nat), l = #[m0, m1, m2, m3, m4, m5, m6, m7, m8, m9, m10, m11, m12, m13, m14, m15, m16, m17, m18] ∧ a = ({ tmps := #[.int .i64 N, szv a0 b0 a1 b1 a2 b2, undef, .pointer (some ⟨w.heap.size, 0, none⟩), .int .i64 0, .pointer (some ⟨w1.heap.size, 0, none⟩), .int .i64 D, .string (dec (rsT U sa sb sc 1)), .int .i64 0, .string (dec (rsT T sa' sb' sc' 1)), .int .i64 0, .int .i64 1, cwX m17 (.string (dec (3 ^ sb))) (u12), cwX m18 (.int .i64 0) (u13), .tuple #[.agg #[.int .i64 x, .int .i64 y, .int .i64 z], .int .i64 D], .agg #[.int .i64 a0, .int .i64 b0, .int .i64 a1, .int .i64 b1, .int .i64 a2, .int .i64 b2], .tuple #[.agg #[.int .i64 x, .int .i64 y, .int .i64 z], .int .i64 D], .agg #[.int .i64 x, .int .i64 y, .int .i64 z], .int .i64 D, .tuple #[.string (dec U), .int .i64 0], .int .i64 N, .string (dec N), .int .i64 D, .tuple #[.string (dec U), .int .i64 0], .string (dec U), .int .i64 0, .tuple #[.string (dec T), .int .i64 0], .string (dec 1000000), .int .i64 D, .tuple #[.string (dec T), .int .i64 0], .string (dec T), .int .i64 0, .int .i64 1, .bool true, u34, u35, cwX m14 (.tuple #[.string (dec (3 ^ sb)), .int .i64 0]) (u36), cwX m0 (.slice (some ⟨g, 0, none⟩) 3 3) (u37), cwX m1 (.int .i64 1) (u38), cwX m2 (.pointer (some ⟨g, 1, none⟩)) (u39), cwX m3 (.int .i64 3) (u40), cwX m4 (.string (dec 3)) (u41), cwX m5 (.int .i64 1) (u42), cwX m6 (.pointer (some ⟨w1.heap.size, 1, none⟩)) (u43), cwX m7 (.int .i64 y) (u44), cwX m8 (.int .i64 1) (u45), cwX m9 (.pointer (some ⟨w1.heap.size, 1, none⟩)) (u46), cwX m10 (.int .i64 y) (u47), cwX m11 (.int .i64 ((sb : Nat) : Int)) (u48), cwX m12 (.int .i64 ((sb : Nat) : Int)) (u49), cwX m13 (.tuple #[.string (dec (3 ^ sb)), .int .i64 0]) (u50), cwX m15 (.string (dec (3 ^ sb))) (u51), cwX m16 (.int .i64 0) (u52), u53, u54, u55, u56, u57, u58, u59, u60, u61, u62, undef, undef, undef], defers := [] } : Act) ∧ (m2 = true → m0 = true) ∧ Hp w (bif m0 then [(w.heap.size, 49, [.int .i64 a0, .int .i64 b0, .int .i64 a1, .int .i64 b1, .int .i64 a2, .int .i64 b2]), (w1.heap.size, 57, [.int .i64 x, .int .i64 y, .int .i64 z])] ++ [(g, 3, [.int .i64 2, .int .i64 3, .int .i64 5])] else [(w.heap.size, 49, [.int .i64 a0, .int .i64 b0, .int .i64 a1, .int .i64 b1, .int .i64 a2, .int .i64 b2]), (w1.heap.size, 57, [.int .i64 x, .int .i64 y, .int .i64 z])]) W) (by kernel_rfl) (by kernel_rfl) (by kernel_rfl) (by kernel_rfl) ?_ ?_ ?_ ?_
    ·rintro l a W ⟨m0, m1, m2, m3, m4, m5, m6, m7, m8, m9, m10, m11, m12, m13, m14, m15, m16, m17, m18, g, rfl, _⟩
     rfl
    ·exact ⟨false, false, false, false, false, false, false, false, false, false, false, false, false, false, false, false, false, false, false, 0, rfl, rfl, fun h => absurd h (by simp), HM.out.drew⟩
    ·rintro l a W i o ⟨m0, m1, m2, m3, m4, m5, m6, m7, m8, m9, m10, m11, m12, m13, m14, m15, m16, m17, m18, g, rfl, rfl, hi0, hm⟩ ho hun hall K hK
     have hi : i < 19 := (Array.getElem?_eq_some_iff.1 ho).1
     have HM := Lib.hid hm
     have HI := Lib.hid hi0
     clear hm hi0
     rcases (show i = 0 ∨ i = 1 ∨ i = 2 ∨ i = 3 ∨ i = 4 ∨ i = 5 ∨ i = 6 ∨ i = 7 ∨ i = 8 ∨ i = 9 ∨ i = 10 ∨ i = 11 ∨ i = 12 ∨ i = 13 ∨ i = 14 ∨ i = 15 ∨ i = 16 ∨ i = 17 ∨ i = 18 by omega) with rfl | rfl | rfl | rfl | rfl | rfl | rfl | rfl | rfl | rfl | rfl | rfl | rfl | rfl | rfl | rfl | rfl | rfl | rfl
     ·cases ho
      simp at hun; subst hun
      clear hall hi
      obtain rfl : m2 = false := by
       cases m2
       ·rfl
       ·exact absurd (HI.out rfl) (by simp)
      go_simp
      exact hK.out _ _ ⟨true, m1, false, m3, m4, m5, m6, m7, m8, m9, m10, m11, m12, m13, m14, m15, m16, m17, m18, W.heap.size, rfl, rfl, by have h0 := HI.out; exact (fun e => by first | rfl | exact h0 e | cases e), HM.out.new _ _⟩
     ·cases ho
      simp at hun; subst hun
      clear hall hi
      go_simp
      exact hK.out _ _ ⟨m0, true, m2, m3, m4, m5, m6, m7, m8, m9, m10, m11, m12, m13, m14, m15, m16, m17, m18, g, rfl, rfl, by have h0 := HI.out; exact (fun e => by first | rfl | exact h0 e | cases e), HM.out⟩
     ·cases ho
      cases (getBX hall 0 rfl : m0 = true)
      cases (getBX hall 1 rfl : m1 = true)
      simp at hun; subst hun
      clear hall hi
      go_simp
      exact hK.out _ _ ⟨true, true, true, m3, m4, m5, m6, m7, m8, m9, m10, m11, m12, m13, m14, m15, m16, m17, m18, g, rfl, rfl, by have h0 := HI.out; exact (fun e => by first | rfl | exact h0 e | cases e), HM.out⟩
     ·cases ho
      cases (getBX hall 2 rfl : m2 = true)
      obtain rfl : m0 = true := HI.out rfl
      simp at hun; subst hun
      clear hall hi
      obtain ⟨c0, c1, c2⟩ := three_of (HM.out.at_ 2 rfl)
      go_simp
      exact hK.out _ _ ⟨true, m1, true, true, m4, m5, m6, m7, m8, m9, m10, m11, m12, m13, m14, m15, m16, m17, m18, g, rfl, rfl, by have h0 := HI.out; exact (fun e => by first | rfl | exact h0 e | cases e), HM.out⟩
     ·cases ho
      cases (getBX hall 3 rfl : m3 = true)
      simp at hun; subst hun
      clear hall hi
      go_simp
      refine (OF1.out _ (HT.out.below HM.out.below)).mono ?_
      rintro e W' ⟨rfl, hb⟩
      exact hK.out _ _ ⟨m0, m1, m2, true, true, m5, m6, m7, m8, m9, m10, m11, m12, m13, m14, m15, m16, m17, m18, g, rfl, rfl, by have h0 := HI.out; exact (fun e => by first | rfl | exact h0 e | cases e), HM.out.step hb⟩
     ·cases ho
      simp at hun; subst hun
      clear hall hi
      go_simp
      exact hK.out _ _ ⟨m0, m1, m2, m3, m4, true, m6, m7, m8, m9, m10, m11, m12, m13, m14, m15, m16, m17, m18, g, rfl, rfl, by have h0 := HI.out; exact (fun e => by first | rfl | exact h0 e | cases e), HM.out⟩
     ·cases ho
      cases (getBX hall 5 rfl : m5 = true)
      simp at hun; subst hun
      clear hall hi
      go_simp
      exact hK.out _ _ ⟨m0, m1, m2, m3, m4, true, true, m7, m8, m9, m10, m11, m12, m13, m14, m15, m16, m17, m18, g, rfl, rfl, by have h0 := HI.out; exact (fun e => by first | rfl | exact h0 e | cases e), HM.out⟩
     ·cases ho
      cases (getBX hall 6 rfl : m6 = true)
      simp at hun; subst hun
      clear hall hi
      obtain ⟨c0, c1, c2⟩ := three_of (show Blk W w1.heap.size 57 [.int .i64 x, .int .i64 y, .int .i64 z] by cases m0 <;> exact HM.out.at_ 1 rfl)
      go_simp
      exact hK.out _ _ ⟨m0, m1, m2, m3, m4, m5, true, true, m8, m9, m10, m11, m12, m13, m14, m15, m16, m17, m18, g, rfl, rfl, by have h0 := HI.out; exact (fun e => by first | rfl | exact h0 e | cases e), HM.out⟩
     ·cases ho
      simp at hun; subst hun
      clear hall hi
      go_simp
      exact hK.out _ _ ⟨m0, m1, m2, m3, m4, m5, m6, m7, true, m9, m10, m11, m12, m13, m14, m15, m16, m17, m18, g, rfl, rfl, by have h0 := HI.out; exact (fun e => by first | rfl | exact h0 e | cases e), HM.out⟩
     ·cases ho
      cases (getBX hall 8 rfl : m8 = true)
      simp at hun; subst hun
      clear hall hi
      go_simp
      exact hK.out _ _ ⟨m0, m1, m2, m3, m4, m5, m6, m7, true, true, m10, m11, m12, m13, m14, m15, m16, m17, m18, g, rfl, rfl, by have h0 := HI.out; exact (fun e => by first | rfl | exact h0 e | cases e), HM.out⟩
     ·cases ho
      cases (getBX hall 9 rfl : m9 = true)
      simp at hun; subst hun
      clear hall hi
      obtain ⟨c0, c1, c2⟩ := three_of (show Blk W w1.heap.size 57 [.int .i64 x, .int .i64 y, .int .i64 z] by cases m0 <;> exact HM.out.at_ 1 rfl)
      go_simp
      exact hK.out _ _ ⟨m0, m1, m2, m3, m4, m5, m6, m7, m8, true, true, m11, m12, m13, m14, m15, m16, m17, m18, g, rfl, rfl, by have h0 := HI.out; exact (fun e => by first | rfl | exact h0 e | cases e), HM.out⟩
     ·cases ho
      cases (getBX hall 10 rfl : m10 = true)
      simp at hun; subst hun
      clear hall hi
      obtain ⟨f1, f2, f3, f4, f5⟩ := HS.out
      go_simp
      exact hK.out _ _ ⟨m0, m1, m2, m3, m4, m5, m6, m7, m8, m9, true, true, m12, m13, m14, m15, m16, m17, m18, g, rfl, rfl, by have h0 := HI.out; exact (fun e => by first | rfl | exact h0 e | cases e), HM.out⟩
     ·cases ho
      cases (getBX hall 7 rfl : m7 = true)
      cases (getBX hall 11 rfl : m11 = true)
      simp at hun; subst hun
      clear hall hi
      obtain ⟨f1, f2, f3, f4, f5⟩ := HS.out
      go_simp
      exact hK.out _ _ ⟨m0, m1, m2, m3, m4, m5, m6, true, m8, m9, m10, true, true, m13, m14, m15, m16, m17, m18, g, rfl, rfl, by have h0 := HI.out; exact (fun e => by first | rfl | exact h0 e | cases e), HM.out⟩
     ·cases ho
      cases (getBX hall 4 rfl : m4 = true)
      cases (getBX hall 12 rfl : m12 = true)
      simp at hun; subst hun
      clear hall hi
      go_simp
      refine (PA1.out _ (HT.out.below HM.out.below)).mono ?_
      rintro e W' ⟨rfl, hb⟩
      exact hK.out _ _ ⟨m0, m1, m2, m3, true, m5, m6, m7, m8, m9, m10, m11, true, true, m14, m15, m16, m17, m18, g, rfl, rfl, by have h0 := HI.out; exact (fun e => by first | rfl | exact h0 e | cases e), HM.out.step hb⟩
     ·cases ho
      cases (getBX hall 13 rfl : m13 = true)
      simp at hun; subst hun
      clear hall hi
      go_simp
      exact hK.out _ _ ⟨m0, m1, m2, m3, m4, m5, m6, m7, m8, m9, m10, m11, m12, true, true, m15, m16, m17, m18, g, rfl, rfl, by have h0 := HI.out; exact (fun e => by first | rfl | exact h0 e | cases e), HM.out⟩
     ·cases ho
      cases (getBX hall 14 rfl : m14 = true)
      simp at hun; subst hun
      clear hall hi
      go_simp
      exact hK.out _ _ ⟨m0, m1, m2, m3, m4, m5, m6, m7, m8, m9, m10, m11, m12, m13, true, true, m16, m17, m18, g, rfl, rfl, by have h0 := HI.out; exact (fun e => by first | rfl | exact h0 e | cases e), HM.out⟩
     ·cases ho
      cases (getBX hall 14 rfl : m14 = true)
      simp at hun; subst hun
      clear hall hi
      go_simp
      exact hK.out _ _ ⟨m0, m1, m2, m3, m4, m5, m6, m7, m8, m9, m10, m11, m12, m13, true, m15, true, m17, m18, g, rfl, rfl, by have h0 := HI.out; exact (fun e => by first | rfl | exact h0 e | cases e), HM.out⟩
     ·cases ho
      cases (getBX hall 15 rfl : m15 = true)
      simp at hun; subst hun
      clear hall hi
      go_simp
      exact hK.out _ _ ⟨m0, m1, m2, m3, m4, m5, m6, m7, m8, m9, m10, m11, m12, m13, m14, true, m16, true, m18, g, rfl, rfl, by have h0 := HI.out; exact (fun e => by first | rfl | exact h0 e | cases e), HM.out⟩
     ·cases ho
      cases (getBX hall 16 rfl : m16 = true)
      simp at hun; subst hun
      clear hall hi
      go_simp
      exact hK.out _ _ ⟨m0, m1, m2, m3, m4, m5, m6, m7, m8, m9, m10, m11, m12, m13, m14, m15, true, m17, true, g, rfl, rfl, by have h0 := HI.out; exact (fun e => by first | rfl | exact h0 e | cases e), HM.out⟩
    ·rintro l a W ⟨m0, m1, m2, m3, m4, m5, m6, m7, m8, m9, m10, m11, m12, m13, m14, m15, m16, m17, m18, g, rfl, rfl, _, hm⟩ hall
     cases (hall 0 (by decide) : m0 = true)
     cases (hall 1 (by decide) : m1 = true)
     cases (hall 2 (by decide) : m2 = true)
     cases (hall 3 (by decide) : m3 = true)
     cases (hall 4 (by decide) : m4 = true)
     cases (hall 5 (by decide) : m5 = true)
     cases (hall 6 (by decide) : m6 = true)
     cases (hall 7 (by decide) : m7 = true)
     cases (hall 8 (by decide) : m8 = true)
     cases (hall 9 (by decide) : m9 = true)
     cases (hall 10 (by decide) : m10 = true)
     cases (hall 11 (by decide) : m11 = true)
     cases (hall 12 (by decide) : m12 = true)
     cases (hall 13 (by decide) : m13 = true)
     cases (hall 14 (by decide) : m14 = true)
     cases (hall 15 (by decide) : m15 = true)
     cases (hall 16 (by decide) : m16 = true)
     cases (hall 17 (by decide) : m17 = true)
     cases (hall 18 (by decide) : m18 = true)
     clear hall
     have HQ := Lib.hid (show Hp w [(w.heap.size, 49, [.int .i64 a0, .int .i64 b0, .int .i64 a1, .int .i64 b1, .int .i64 a2, .int .i64 b2]), (w1.heap.size, 57, [.int .i64 x, .int .i64 y, .int .i64 z])] _ from hm.sub (List.sublist_append_left _ _))
     clear hm HM
     dsimp only [cwX, cond_true]
     obtain ⟨c0, c1, c2⟩ := three_of (HQ.out.at_ 1 rfl)
     have hs := HS.out.1
     go_wp2_with fail
     refine (MA1.out _ (HT.out.below HQ.out.below)).mono ?_
     rintro e w6 ⟨rfl, hb6⟩
     have HQ2 := Lib.hid (HQ.out.step hb6)
     clear hb6 HQ c0 c1 c2 hs
     go_wp2_with fail
     go_roundw
     case rel => exact ⟨2, by omega, rfl, rfl, by rw [rsT_z1 _ _ HS.out.2.2.2.2], HQ2.out⟩
     case measure => simp [intOf]
   ·have HS := Lib.hid (SB1.out (by omega))
    clear hs
    go_upto_region 7 with fail
    refine wp_regionJ 19 #[false, false, false, false, false, false, false, false, false, false, false, false, false, false, false, false, false, false, false] (fun l a W => ∃ (m0 m1 m2 m3 m4 m5 m6 m7 m8 m9 m10 m11 m12 m13 m14 m15 m16 m17 m18 : Bool) (g : Nat), l = #[m0, m1, m2, m3, m4, m5, m6, m7, m8, m9, m10, m11, m12, m13, m14, m15, m16, m17, m18] ∧ a = ({ tmps := #[.int .i64 N, szv a0 b0 a1 b1 a2 b2, undef, .pointer (some ⟨w.heap.size, 0, none⟩), .int .i64 0, .pointer (some ⟨w1.heap.size, 0, none⟩), .int .i64 D, .string (dec (rsT U sa sb sc 1)), .int .i64 0, .string (dec (rsT T sa' sb' sc' 1)), .int .i64 0, .int .i64 1, cwX m17 (.string (dec (3 ^ sb'))) (u12), cwX m18 (.int .i64 0) (u13), .tuple #[.agg #[.int .i64 x, .int .i64 y, .int .i64 z], .int .i64 D], .agg #[.int .i64 a0, .int .i64 b0, .int .i64 a1, .int .i64 b1, .int .i64 a2, .int .i64 b2], .tuple #[.agg #[.int .i64 x, .int .i64 y, .int .i64 z], .int .i64 D], .agg #[.int .i64 x, .int .i64 y, .int .i64 z], .int .i64 D, .tuple #[.string (dec U), .int .i64 0], .int .i64 N, .string (dec N), .int .i64 D, .tuple #[.string (dec U), .int .i64 0], .string (dec U), .int .i64 0, .tuple #[.string (dec T), .int .i64 0], .string (dec 1000000), .int .i64 D, .tuple #[.string (dec T), .int .i64 0], .string (dec T), .int .i64 0, .int .i64 1, .bool true, u34, u35, cwX m14 (.tuple #[.string (dec (3 ^ sb')), .int .i64 0]) (u36), cwX m0 (.slice (some ⟨g, 0, none⟩) 3 3) (u37), cwX m1 (.int .i64 1) (u38), cwX m2 (.pointer (some ⟨g, 1, none⟩)) (u39), cwX m3 (.int .i64 3) (u40), cwX m4 (.string (dec 3)) (u41), cwX m5 (.int .i64 1) (u42), cwX m6 (.pointer (some ⟨w1.heap.size, 1, none⟩)) (u43), cwX m7 (.int .i64 y) (u44), cwX m8 (.int .i64 1) (u45), cwX m9 (.pointer (some ⟨w1.heap.size, 1, none⟩)) (u46), cwX m10 (.int .i64 y) (u47), cwX m11 (.int .i64 (-y)) (u48), cwX m12 (.int .i64 ((sb' : Nat) : Int)) (u49), cwX m13 (.tuple #[.string (dec (3 ^ sb')), .int .i64 0]) (u50), cwX m15 (.string (dec (3 ^ sb'))) (u51), cwX m16 (.int .i64 0) (u52), u53, u54, u55, u56, u57, u58, u59, u60, u61, u62, undef, undef, undef], defers := [] } : Act) ∧ (m2 = true → m0 = true) ∧ Hp w (bif m0 then [(w.heap.size, 49, [.int .i64 a0, .int .i64 b0, .int .i64 a1, .int .i64 b1, .int .i64 a2, .int .i64 b2]), (w1.heap.size, 57, [.int .i64 x, .int .i64 y, .int .i64 z])] ++ [(g, 3, [.int .i64 2, .int .i64 3, .int .i64 5])] else [(w.heap.size, 49, [.int .i64 a0, .int .i64 b0, .int .i64 a1, .int .i64 b1, .int .i64 a2, .int .i64 b2]), (w1.heap.size, 57, [.int .i64 x, .int .i64 y, .int .i64 z])]) W) (by kernel_rfl) (by kernel_rfl) (by kernel_rfl) (by kernel_rfl) ?_ ?_ ?_ ?_
    ·rintro l a W ⟨m0, m1, m2, m3, m4, m5, m6, m7, m8, m9, m10, m11, m12, m13, m14, m15, m16, m17, m18, g, rfl, _⟩
     rfl
    ·exact ⟨false, false, false, false, false, false, false, false, false, false, false, false, false, false, false, false, false, false, false, 0, rfl, rfl, fun h => absurd h (by simp), HM.out.drew⟩
    ·rintro l a W i o ⟨m0, m1, m2, m3, m4, m5, m6, m7, m8, m9, m10, m11, m12, m13, m14, m15, m16, m17, m18, g, rfl, rfl, hi0, hm⟩ ho hun hall K hK
     have hi : i < 19 := (Array.getElem?_eq_some_iff.1 ho).1
     have HM := Lib.hid hm
     have HI := Lib.hid hi0
     clear hm hi0
     rcases (show i = 0 ∨ i = 1 ∨ i = 2 ∨ i = 3 ∨ i = 4 ∨ i = 5 ∨ i = 6 ∨ i = 7 ∨ i = 8 ∨ i = 9 ∨ i = 10 ∨ i = 11 ∨ i = 12 ∨ i = 13 ∨ i = 14 ∨ i = 15 ∨ i = 16 ∨ i = 17 ∨ i = 18 by omega) with rfl | rfl | rfl | rfl | rfl | rfl | rfl | rfl | rfl | rfl | rfl | rfl | rfl | rfl | rfl | rfl | rfl | rfl | rfl
     ·cases ho
      simp at hun; subst hun
      clear hall hi
      obtain rfl : m2 = false := by
       cases m2
       ·rfl
       ·exact absurd (HI.out rfl) (by simp)
      go_simp
      exact hK.out _ _ ⟨true, m1, false, m3, m4, m5, m6, m7, m8, m9, m10, m11, m12, m13, m14, m15, m16, m17, m18, W.heap.size, rfl, rfl, by have h0 := HI.out; exact (fun e => by first | rfl | exact h0 e | cases e), HM.out.new _ _⟩
     ·cases ho
      simp at hun; subst hun
      clear hall hi
      go_simp
      exact hK.out _ _ ⟨m0, true, m2, m3, m4, m5, m6, m7, m8, m9, m10, m11, m12, m13, m14, m15, m16, m17, m18, g, rfl, rfl, by have h0 := HI.out; exact (fun e => by first | rfl | exact h0 e | cases e), HM.out⟩
     ·cases ho
      cases (getBX hall 0 rfl : m0 = true)
      cases (getBX hall 1 rfl : m1 = true)
      simp at hun; subst hun
      clear hall hi
      go_simp
      exact hK.out _ _ ⟨true, true, true, m3, m4, m5, m6, m7, m8, m9, m10, m11, m12, m13, m14, m15, m16, m17, m18, g, rfl, rfl, by have h0 := HI.out; exact (fun e => by first | rfl | exact h0 e | cases e), HM.out⟩
     ·cases ho
      cases (getBX hall 2 rfl : m2 = true)
      obtain rfl : m0 = true := HI.out rfl
      simp at hun; subst hun
      clear hall hi
      obtain ⟨c0, c1, c2⟩ := three_of (HM.out.at_ 2 rfl)
      go_simp
      exact hK.out _ _ ⟨true, m1, true, true, m4, m5, m6, m7, m8, m9, m10, m11, m12, m13, m14, m15, m16, m17, m18, g, rfl, rfl, by have h0 := HI.out; exact (fun e => by first | rfl | exact h0 e | cases e), HM.out⟩
     ·cases ho
      cases (getBX hall 3 rfl : m3 = true)
      simp at hun; subst hun
      clear hall hi
      go_simp
      refine (OF1.out _ (HT.out.below HM.out.below)).mono ?_
      rintro e W' ⟨rfl, hb⟩
      exact hK.out _ _ ⟨m0, m1, m2, true, true, m5, m6, m7, m8, m9, m10, m11, m12, m13, m14, m15, m16, m17, m18, g, rfl, rfl, by have h0 := HI.out; exact (fun e => by first | rfl | exact h0 e | cases e), HM.out.step hb⟩
     ·cases ho
      simp at hun; subst hun
      clear hall hi
      go_simp
      exact hK.out _ _ ⟨m0, m1, m2, m3, m4, true, m6, m7, m8, m9, m10, m11, m12, m13, m14, m15, m16, m17, m18, g, rfl, rfl, by have h0 := HI.out; exact (fun e => by first | rfl | exact h0 e | cases e), HM.out⟩
     ·cases ho
      cases (getBX hall 5 rfl : m5 = true)
      simp at hun; subst hun
      clear hall hi
      go_simp
      exact hK.out _ _ ⟨m0, m1, m2, m3, m4, true, true, m7, m8, m9, m10, m11, m12, m13, m14, m15, m16, m17, m18, g, rfl, rfl, by have h0 := HI.out; exact (fun e => by first | rfl | exact h0 e | cases e), HM.out⟩
     ·cases ho
      cases (getBX hall 6 rfl : m6 = true)
      simp at hun; subst hun
      clear hall hi
      obtain ⟨c0, c1, c2⟩ := three_of (show Blk W w1.heap.size 57 [.int .i64 x, .int .i64 y, .int .i64 z] by cases m0 <;> exact HM.out.at_ 1 rfl)
      go_simp
      exact hK.out _ _ ⟨m0, m1, m2, m3, m4, m5, true, true, m8, m9, m10, m11, m12, m13, m14, m15, m16, m17, m18, g, rfl, rfl, by have h0 := HI.out; exact (fun e => by first | rfl | exact h0 e | cases e), HM.out⟩
     ·cases ho
      simp at hun; subst hun
      clear hall hi
      go_simp
      exact hK.out _ _ ⟨m0, m1, m2, m3, m4, m5, m6, m7, true, m9, m10, m11, m12, m13, m14, m15, m16, m17, m18, g, rfl, rfl, by have h0 := HI.out; exact (fun e => by first | rfl | exact h0 e | cases e), HM.out⟩
     ·cases ho
      cases (getBX hall 8 rfl : m8 = true)
      simp at hun; subst hun
      clear hall hi
      go_simp
      exact hK.out _ _ ⟨m0, m1, m2, m3, m4, m5, m6, m7, true, true, m10, m11, m12, m13, m14, m15, m16, m17, m18, g, rfl, rfl, by have h0 := HI.out; exact (fun e => by first | rfl | exact h0 e | cases e), HM.out⟩
     ·cases ho
      cases (getBX hall 9 rfl : m9 = true)
      simp at hun; subst hun
      clear hall hi
      obtain ⟨c0, c1, c2⟩ := three_of (show Blk W w1.heap.size 57 [.int .i64 x, .int .i64 y, .int .i64 z] by cases m0 <;> exact HM.out.at_ 1 rfl)
      go_simp
      exact hK.out _ _ ⟨m0, m1, m2, m3, m4, m5, m6, m7, m8, true, true, m11, m12, m13, m14, m15, m16, m17, m18, g, rfl, rfl, by have h0 := HI.out; exact (fun e => by first | rfl | exact h0 e | cases e), HM.out⟩
     ·cases ho
      cases (getBX hall 10 rfl : m10 = true)
      simp at hun; subst hun
      clear hall hi
      obtain ⟨f1, f2, f3, f4, f5⟩ := HS.out
      go_simp
      exact hK.out _ _ ⟨m0, m1, m2, m3, m4, m5, m6, m7, m8, m9, true, true, m12, m13, m14, m15, m16, m17, m18, g, rfl, rfl, by have h0 := HI.out; exact (fun e => by first | rfl | exact h0 e | cases e), HM.out⟩
     ·cases ho
      cases (getBX hall 7 rfl : m7 = true)
      cases (getBX hall 11 rfl : m11 = true)
      simp at hun; subst hun
      clear hall hi
      obtain ⟨f1, f2, f3, f4, f5⟩ := HS.out
      go_simp
      exact hK.out _ _ ⟨m0, m1, m2, m3, m4, m5, m6, true, m8, m9, m10, true, true, m13, m14, m15, m16, m17, m18, g, rfl, rfl, by have h0 := HI.out; exact (fun e => by first | rfl | exact h0 e | cases e), HM.out⟩
     ·cases ho
      cases (getBX hall 4 rfl : m4 = true)
      cases (getBX hall 12 rfl : m12 = true)
      simp at hun; subst hun
      clear hall hi
      go_simp
      refine (PB1.out _ (HT.out.below HM.out.below)).mono ?_
      rintro e W' ⟨rfl, hb⟩
      exact hK.out _ _ ⟨m0, m1, m2, m3, true, m5, m6, m7, m8, m9, m10, m11, true, true, m14, m15, m16, m17, m18, g, rfl, rfl, by have h0 := HI.out; exact (fun e => by first | rfl | exact h0 e | cases e), HM.out.step hb⟩
     ·cases ho
      cases (getBX hall 13 rfl : m13 = true)
      simp at hun; subst hun
      clear hall hi
      go_simp
      exact hK.out _ _ ⟨m0, m1, m2, m3, m4, m5, m6, m7, m8, m9, m10, m11, m12, true, true, m15, m16, m17, m18, g, rfl, rfl, by have h0 := HI.out; exact (fun e => by first | rfl | exact h0 e | cases e), HM.out⟩
     ·cases ho
      cases (getBX hall 14 rfl : m14 = true)
      simp at hun; subst hun
      clear hall hi
      go_simp
      exact hK.out _ _ ⟨m0, m1, m2, m3, m4, m5, m6, m7, m8, m9, m10, m11, m12, m13, true, true, m16, m17, m18, g, rfl, rfl, by have h0 := HI.out; exact (fun e => by first | rfl | exact h0 e | cases e), HM.out⟩
     ·cases ho
      cases (getBX hall 14 rfl : m14 = true)
      simp at hun; subst hun
      clear hall hi
      go_simp
      exact hK.out _ _ ⟨m0, m1, m2, m3, m4, m5, m6, m7, m8, m9, m10, m11, m12, m13, true, m15, true, m17, m18, g, rfl, rfl, by have h0 := HI.out; exact (fun e => by first | rfl | exact h0 e | cases e), HM.out⟩
     ·cases ho
      cases (getBX hall 15 rfl : m15 = true)
      simp at hun; subst hun
      clear hall hi
      go_simp
      exact hK.out _ _ ⟨m0, m1, m2, m3, m4, m5, m6, m7, m8, m9, m10, m11, m12, m13, m14, true, m16, true, m18, g, rfl, rfl, by have h0 := HI.out; exact (fun e => by first | rfl | exact h0 e | cases e), HM.out⟩
     ·cases ho
      cases (getBX hall 16 rfl : m16 = true)
      simp at hun; subst hun
      clear hall hi
      go_simp
      exact hK.out _ _ ⟨m0, m1, m2, m3, m4, m5, m6, m7, m8, m9, m10, m11, m12, m13, m14, m15, true, m17, true, g, rfl, rfl, by have h0 := HI.out; exact (fun e => by first | rfl | exact h0 e | cases e), HM.out⟩
    ·rintro l a W ⟨m0, m1, m2, m3, m4, m5, m6, m7, m8, m9, m10, m11, m12, m13, m14, m15, m16, m17, m18, g, rfl, rfl, _, hm⟩ hall
     cases (hall 0 (by decide) : m0 = true)
     cases (hall 1 (by decide) : m1 = true)
     cases (hall 2 (by decide) : m2 = true)
     cases (hall 3 (by decide) : m3 = true)
     cases (hall 4 (by decide) : m4 = true)
     cases (hall 5 (by decide) : m5 = true)
     cases (hall 6 (by decide) : m6 = true)
     cases (hall 7 (by decide) : m7 = true)
     cases (hall 8 (by decide) : m8 = true)
     cases (hall 9 (by decide) : m9 = true)
     cases (hall 10 (by decide) : m10 = true)
     cases (hall 11 (by decide) : m11 = true)
     cases (hall 12 (by decide) : m12 = true)
     cases (hall 13 (by decide) : m13 = true)
     cases (hall 14 (by decide) : m14 = true)
     cases (hall 15 (by decide) : m15 = true)
     cases (hall 16 (by decide) : m16 = true)
     cases (hall 17 (by decide) : m17 = true)
     cases (hall 18 (by decide) : m18 = true)
     clear hall
     have HQ := Lib.hid (show Hp w [(w.heap.size, 49, [.int .i64 a0, .int .i64 b0, .int .i64 a1, .int .i64 b1, .int .i64 a2, .int .i64 b2]), (w1.heap.size, 57, [.int .i64 x, .int .i64 y, .int .i64 z])] _ from hm.sub (List.sublist_append_left _ _))
     clear hm HM
     dsimp only [cwX, cond_true]
     obtain ⟨c0, c1, c2⟩ := three_of (HQ.out.at_ 1 rfl)
     have hs := HS.out.1
     go_wp2_with fail
     refine (MB1.out _ (HT.out.below HQ.out.below)).mono ?_
     rintro e w6 ⟨rfl, hb6⟩
     have HQ2 := Lib.hid (HQ.out.step hb6)
     clear hb6 HQ c0 c1 c2 hs
     go_wp2_with fail
     go_roundw
     case rel => exact ⟨2, by omega, rfl, by rw [rsT_z1 _ _ HS.out.2.2.2.2], rfl, HQ2.out⟩
     case measure => simp [intOf]
  ·clear hk
   by_cases hs : z < 0
   ·have HS := Lib.hid (SA2.out hs)
    clear hs
    go_upto_region 7 with fail
    refine wp_regionJ 19 #[false, false, false, false, false, false, false, false, false, false, false, false, false, false, false, false, false, false, false] (fun l a W => ∃ (m0 m1 m2 m3 m4 m5 m6 m7 m8 m9 m10 m11 m12 m13 m14 m15 m16 m17 m18 : Bool) (g : Nat), l = #[m0, m1, m2, m3, m4, m5, m6, m7, m8, m9, m10, m11, m12, m13, m14, m15, m16, m17, m18] ∧ a = ({ tmps := #[.int .i64 N, szv a0 b0 a1 b1 a2 b2, undef, .pointer (some ⟨w.heap.size, 0, none⟩), .int .i64 0, .pointer (some ⟨w1.heap.size, 0, none⟩), .int .i64 D, .string (dec (rsT U sa sb sc 2)), .int .i64 0, .string (dec (rsT T sa' sb' sc' 2)), .int .i64 0, .int .i64 2, cwX m17 (.string (dec (5 ^ sc))) (u12), cwX m18 (.int .i64 0) (u13), .tuple #[.agg #[.int .i64 x, .int .i64 y, .int .i64 z], .int .i64 D], .agg #[.int .i64 a0, .int .i64 b0, .int .i64 a1, .int .i64 b1, .int .i64 a2, .int .i64 b2], .tuple #[.agg #[.int .i64 x, .int .i64 y, .int .i64 z], .int .i64 D], .agg #[.int .i64 x, .int .i64 y, .int .i64 z], .int .i64 D, .tuple #[.string (dec U), .int .i64 0], .int .i64 N, .string (dec N), .int .i64 D, .tuple #[.string (dec U), .int .i64 0], .string (dec U), .int .i64 0, .tuple #[.string (dec T), .int .i64 0], .string (dec 1000000), .int .i64 D, .tuple #[.string (dec T), .int .i64 0], .string (dec T), .int .i64 0, .int .i64 2, .bool true, u34, u35, cwX m14 (.tuple #[.string (dec (5 ^ sc)), .int .i64 0]) (u36), cwX m0 (.slice (some ⟨g, 0, none⟩) 3 3) (u37), cwX m1 (.int .i64 2) (u38), cwX m2 (.pointer (some ⟨g, 2, none⟩)) (u39), cwX m3 (.int .i64 5) (u40), cwX m4 (.string (dec 5)) (u41), cwX m5 (.int .i64 2) (u42), cwX m6 (.pointer (some ⟨w1.heap.size, 2, none⟩)) (u43), cwX m7 (.int .i64 z) (u44), cwX m8 (.int .i64 2) (u45), cwX m9 (.pointer (some ⟨w1.heap.size, 2, none⟩)) (u46), cwX m10 (.int .i64 z) (u47), cwX m11 (.int .i64 ((sc : Nat) : Int)) (u48), cwX m12 (.int .i64 ((sc : Nat) : Int)) (u49), cwX m13 (.tuple #[.string (dec (5 ^ sc)), .int .i64 0]) (u50), cwX m15 (.string (dec (5 ^ sc))) (u51), cwX m16 (.int .i64 0) (u52), u53, u54, u55, u56, u57, u58, u59, u60, u61, u62, undef, undef, undef], defers := [] } : Act) ∧ (m2 = true → m0 = true) ∧ Hp w (bif m0 then [(w.heap.size, 49, [.int .i64 a0, .int .i64 b0, .int .i64 a1, .int .i64 b1, .int .i64 a2, .int .i64 b2]), (w1.heap.size, 57, [.int .i64 x, .int .i64 y, .int .i64 z])] ++ [(g, 3, [.int .i64 2, .int .i64 3, .int .i64 5])] else [(w.heap.size, 49, [.int .i64 a0, .int .i64 b0, .int .i64 a1, .int .i64 b1, .int .i64 a2, .int .i64 b2]), (w1.heap.size, 57, [.int .i64 x, .int .i64 y, .int .i64 z])]) W) (by kernel_rfl) (by kernel_rfl) (by kernel_rfl) (by kernel_rfl) ?_ ?_ ?_ ?_
    ·rintro l a W ⟨m0, m1, m2, m3, m4, m5, m6, m7, m8, m9, m10, m11, m12, m13, m14, m15, m16, m17, m18, g, rfl, _⟩
     rfl
    ·exact ⟨false, false, false, false, false, false, false, false, false, false, false, false, false, false, false, false, false, false, false, 0, rfl, rfl, fun h => absurd h (by simp), HM.out.drew⟩
    ·rintro l a W i o ⟨m0, m1, m2, m3, m4, m5, m6, m7, m8, m9, m10, m11, m12, m13, m14, m15, m16, m17, m18, g, rfl, rfl, hi0, hm⟩ ho hun hall K hK
     have hi : i < 19 := (Array.getElem?_eq_some_iff.1 ho).1
     have HM := Lib.hid hm
     have HI := Lib.hid hi0
     clear hm hi0
     rcases (show i = 0 ∨ i = 1 ∨ i = 2 ∨ i = 3 ∨ i = 4 ∨ i = 5 ∨ i = 6 ∨ i = 7 ∨ i = 8 ∨ i = 9 ∨ i = 10 ∨ i = 11 ∨ i = 12 ∨ i = 13 ∨ i = 14 ∨ i = 15 ∨ i = 16 ∨ i = 17 ∨ i = 18 by omega) with rfl | rfl | rfl | rfl | rfl | rfl | rfl | rfl | rfl | rfl | rfl | rfl | rfl | rfl | rfl | rfl | rfl | rfl | rfl
     ·cases ho
      simp at hun; subst hun
      clear hall hi
      obtain rfl : m2 = false := by
       cases m2
       ·rfl
       ·exact absurd (HI.out rfl) (by simp)
      go_simp
      exact hK.out _ _ ⟨true, m1, false, m3, m4, m5, m6, m7, m8, m9, m10, m11, m12, m13, m14, m15, m16, m17, m18, W.heap.size, rfl, rfl, by have h0 := HI.out; exact (fun e => by first | rfl | exact h0 e | cases e), HM.out.new _ _⟩
     ·cases ho
      simp at hun; subst hun
      clear hall hi
      go_simp
      exact hK.out _ _ ⟨m0, true, m2, m3, m4, m5, m6, m7, m8, m9, m10, m11, m12, m13, m14, m15, m16, m17, m18, g, rfl, rfl, by have h0 := HI.out; exact (fun e => by first | rfl | exact h0 e | cases e), HM.out⟩
     ·cases ho
      cases (getBX hall 0 rfl : m0 = true)
      cases (getBX hall 1 rfl : m1 = true)
      simp at hun; subst hun
      clear hall hi
      go_simp
      exact hK.out _ _ ⟨true, true, true, m3, m4, m5, m6, m7, m8, m9, m10, m11, m12, m13, m14, m15, m16, m17, m18, g, rfl, rfl, by have h0 := HI.out; exact (fun e => by first | rfl | exact h0 e | cases e), HM.out⟩
     ·cases ho
      cases (getBX hall 2 rfl : m2 = true)
      obtain rfl : m0 = true := HI.out rfl
      simp at hun; subst hun
      clear hall hi
      obtain ⟨c0, c1, c2⟩ := three_of (HM.out.at_ 2 rfl)
      go_simp
      exact hK.out _ _ ⟨true, m1, true, true, m4, m5, m6, m7, m8, m9, m10, m11, m12, m13, m14, m15, m16, m17, m18, g, rfl, rfl, by have h0 := HI.out; exact (fun e => by first | rfl | exact h0 e | cases e), HM.out⟩
     ·cases ho
      cases (getBX hall 3 rfl : m3 = true)
      simp at hun; subst hun
      clear hall hi
      go_simp
      refine (OF2.out _ (HT.out.below HM.out.below)).mono ?_
      rintro e W' ⟨rfl, hb⟩
      exact hK.out _ _ ⟨m0, m1, m2, true, true, m5, m6, m7, m8, m9, m10, m11, m12, m13, m14, m15, m16, m17, m18, g, rfl, rfl, by have h0 := HI.out; exact (fun e => by first | rfl | exact h0 e | cases e), HM.out.step hb⟩
     ·cases ho
      simp at hun; subst hun
      clear hall hi
      go_simp
      exact hK.out _ _ ⟨m0, m1, m2, m3, m4, true, m6, m7, m8, m9, m10, m11, m12, m13, m14, m15, m16, m17, m18, g, rfl, rfl, by have h0 := HI.out; exact (fun e => by first | rfl | exact h0 e | cases e), HM.out⟩
     ·cases ho
      cases (getBX hall 5 rfl : m5 = true)
      simp at hun; subst hun
      clear hall hi
      go_simp
      exact hK.out _ _ ⟨m0, m1, m2, m3, m4, true, true, m7, m8, m9, m10, m11, m12, m13, m14, m15, m16, m17, m18, g, rfl, rfl, by have h0 := HI.out; exact (fun e => by first | rfl | exact h0 e | cases e), HM.out⟩
     ·cases ho
      cases (getBX hall 6 rfl : m6 = true)
      simp at hun; subst hun
      clear hall hi
      obtain ⟨c0, c1, c2⟩ := three_of (show Blk W w1.heap.size 57 [.int .i64 x, .int .i64 y, .int .i64 z] by cases m0 <;> exact HM.out.at_ 1 rfl)
      go_simp
      exact hK.out _ _ ⟨m0, m1, m2, m3, m4, m5, true, true, m8, m9, m10, m11, m12, m13, m14, m15, m16, m17, m18, g, rfl, rfl, by have h0 := HI.out; exact (fun e => by first | rfl | exact h0 e | cases e), HM.out⟩
     ·cases ho
      simp at hun; subst hun
      clear hall hi
      go_simp
      exact hK.out _ _ ⟨m0, m1, m2, m3, m4, m5, m6, m7, true, m9, m10, m11, m12, m13, m14, m15, m16, m17, m18, g, rfl, rfl, by have h0 := HI.out; exact (fun e => by first | rfl | exact h0 e | cases e), HM.out⟩
     ·cases ho
      cases (getBX hall 8 rfl : m8 = true)
      simp at hun; subst hun
      clear hall hi
      go_simp
      exact hK.out _ _ ⟨m0, m1, m2, m3, m4, m5, m6, m7, true, true, m10, m11, m12, m13, m14, m15, m16, m17, m18, g, rfl, rfl, by have h0 := HI.out; exact (fun e => by first | rfl | exact h0 e | cases e), HM.out⟩
     ·cases ho
      cases (getBX hall 9 rfl : m9 = true)
      simp at hun; subst hun
      clear hall hi
      obtain ⟨c0, c1, c2⟩ := three_of (show Blk W w1.heap.size 57 [.int .i64 x, .int .i64 y, .int .i64 z] by cases m0 <;> exact HM.out.at_ 1 rfl)
      go_simp
      exact hK.out _ _ ⟨m0, m1, m2, m3, m4, m5, m6, m7, m8, true, true, m11, m12, m13, m14, m15, m16, m17, m18, g, rfl, rfl, by have h0 := HI.out; exact (fun e => by first | rfl | exact h0 e | cases e), HM.out⟩
     ·cases ho
      cases (getBX hall 10 rfl : m10 = true)
      simp at hun; subst hun
      clear hall hi
      obtain ⟨f1, f2, f3, f4, f5⟩ := HS.out
      go_simp
      exact hK.out _ _ ⟨m0, m1, m2, m3, m4, m5, m6, m7, m8, m9, true, true, m12, m13, m14, m15, m16, m17, m18, g, rfl, rfl, by have h0 := HI.out; exact (fun e => by first | rfl | exact h0 e | cases e), HM.out⟩
     ·cases ho
      cases (getBX hall 7 rfl : m7 = true)
      cases (getBX hall 11 rfl : m11 = true)
      simp at hun; subst hun
      clear hall hi
      obtain ⟨f1, f2, f3, f4, f5⟩ := HS.out
      go_simp
      exact hK.out _ _ ⟨m0, m1, m2, m3, m4, m5, m6, true, m8, m9, m10, true, true, m13, m14, m15, m16, m17, m18, g, rfl, rfl, by have h0 := HI.out; exact (fun e => by first | rfl | exact h0 e | cases e), HM.out⟩
     ·cases ho
      cases (getBX hall 4 rfl : m4 = true)
      cases (getBX hall 12 rfl : m12 = true)
      simp at hun; subst hun
      clear hall hi
      go_simp
      refine (PA2.out _ (HT.out.below HM.out.below)).mono ?_
      rintro e W' ⟨rfl, hb⟩
      exact hK.out _ _ ⟨m0, m1, m2, m3, true, m5, m6, m7, m8, m9, m10, m11, true, true, m14, m15, m16, m17, m18, g, rfl, rfl, by have h0 := HI.out; exact (fun e => by first | rfl | exact h0 e | cases e), HM.out.step hb⟩
     ·cases ho
      cases (getBX hall 13 rfl : m13 = true)
      simp at hun; subst hun
      clear hall hi
      go_simp
      exact hK.out _ _ ⟨m0, m1, m2, m3, m4, m5, m6, m7, m8, m9, m10, m11, m12, true, true, m15, m16, m17, m18, g, rfl, rfl, by have h0 := HI.out; exact (fun e => by first | rfl | exact h0 e | cases e), HM.out⟩
     ·cases ho
      cases (getBX hall 14 rfl : m14 = true)
      simp at hun; subst hun
      clear hall hi
      go_simp
      exact hK.out _ _ ⟨m0, m1, m2, m3, m4, m5, m6, m7, m8, m9, m10, m11, m12, m13, true, true, m16, m17, m18, g, rfl, rfl, by have h0 := HI.out; exact (fun e => by first | rfl | exact h0 e | cases e), HM.out⟩
     ·cases ho
      cases (getBX hall 14 rfl : m14 = true)
      simp at hun; subst hun
      clear hall hi
      go_simp
      exact hK.out _ _ ⟨m0, m1, m2, m3, m4, m5, m6, m7, m8, m9, m10, m11, m12, m13, true, m15, true, m17, m18, g, rfl, rfl, by have h0 := HI.out; exact (fun e => by first | rfl | exact h0 e | cases e), HM.out⟩
     ·cases ho
      cases (getBX hall 15 rfl : m15 = true)
      simp at hun; subst hun
      clear hall hi
      go_simp
      exact hK.out _ _ ⟨m0, m1, m2, m3, m4, m5, m6, m7, m8, m9, m10, m11, m12, m13, m14, true, m16, true, m18, g, rfl, rfl, by have h0 := HI.out; exact (fun e => by first | rfl | exact h0 e | cases e), HM.out⟩
     ·cases ho
      cases (getBX hall 16 rfl : m16 = true)
      simp at hun; subst hun
      clear hall hi
      go_simp
      exact hK.out _ _ ⟨m0, m1, m2, m3, m4, m5, m6, m7, m8, m9, m10, m11, m12, m13, m14, m15, true, m17, true, g, rfl, rfl, by have h0 := HI.out; exact (fun e => by first | rfl | exact h0 e | cases e), HM.out⟩
    ·rintro l a W ⟨m0, m1, m2, m3, m4, m5, m6, m7, m8, m9, m10, m11, m12, m13, m14, m15, m16, m17, m18, g, rfl, rfl, _, hm⟩ hall
     cases (hall 0 (by decide) : m0 = true)
     cases (hall 1 (by decide) : m1 = true)
     cases (hall 2 (by decide) : m2 = true)
     cases (hall 3 (by decide) : m3 = true)
     cases (hall 4 (by decide) : m4 = true)
     cases (hall 5 (by decide) : m5 = true)
     cases (hall 6 (by decide) : m6 = true)
     cases (hall 7 (by decide) : m7 = true)
     cases (hall 8 (by decide) : m8 = true)
     cases (hall 9 (by decide) : m9 = true)
     cases (hall 10 (by decide) : m10 = true)
     cases (hall 11 (by decide) : m11 = true)
     cases (hall 12 (by decide) : m12 = true)
     cases (hall 13 (by decide) : m13 = true)
     cases (hall 14 (by decide) : m14 = true)
     cases (hall 15 (by decide) : m15 = true)
     cases (hall 16 (by decide) : m16 = true)
     cases (hall 17 (by decide) : m17 = true)
     cases (hall 18 (by decide) : m18 = true)
     clear hall
     have HQ := Lib.hid (show Hp w [(w.heap.size, 49, [.int .i64 a0, .int .i64 b0, .int .i64 a1, .int .i64 b1, .int .i64 a2, .int .i64 b2]), (w1.heap.size, 57, [.int .i64 x, .int .i64 y, .int .i64 z])] _ from hm.sub (List.sublist_append_left _ _))
     clear hm HM
     dsimp only [cwX, cond_true]
     obtain ⟨c0, c1, c2⟩ := three_of (HQ.out.at_ 1 rfl)
     have hs := HS.out.1
     go_wp2_with fail
     refine (MA2.out _ (HT.out.below HQ.out.below)).mono ?_
     rintro e w6 ⟨rfl, hb6⟩
     have HQ2 := Lib.hid (HQ.out.step hb6)
     clear hb6 HQ c0 c1 c2 hs
     go_wp2_with fail
     go_roundw
     case rel => exact ⟨3, by omega, rfl, rfl, by rw [rsT_z2 _ _ HS.out.2.2.2.2], HQ2.out⟩
     case measure => simp [intOf]
   ·have HS := Lib.hid (SB2.out (by omega))
    clear hs
    go_upto_region 7 with fail
    refine wp_regionJ 19 #[false, false, false, false, false, false, false, false, false, false, false, false, false, false, false, false, false, false, false] (fun l a W => ∃ (m0 m1 m2 m3 m4 m5 m6 m7 m8 m9 m10 m11 m12 m13 m14 m15 m16 m17 m18 : Bool) (g : Nat), l = #[m0, m1, m2, m3, m4, m5, m6, m7, m8, m9, m10, m11, m12, m13, m14, m15, m16, m17, m18] ∧ a = ({ tmps := #[.int .i64 N, szv a0 b0 a1 b1 a2 b2, undef, .pointer (some ⟨w.heap.size, 0, none⟩), .int .i64 0, .pointer (some ⟨w1.heap.size, 0, none⟩), .int .i64 D, .string (dec (rsT U sa sb sc 2)), .int .i64 0, .string (dec (rsT T sa' sb' sc' 2)), .int .i64 0, .int .i64 2, cwX m17 (.string (dec (5 ^ sc'))) (u12), cwX m18 (.int .i64 0) (u13), .tuple #[.agg #[.int .i64 x, .int .i64 y, .int .i64 z], .int .i64 D], .agg #[.int .i64 a0, .int .i64 b0, .int .i64 a1, .int .i64 b1, .int .i64 a2, .int .i64 b2], .tuple #[.agg #[.int .i64 x, .int .i64 y, .int .i64 z], .int .i64 D], .agg #[.int .i64 x, .int .i64 y, .int .i64 z], .int .i64 D, .tuple #[.string (dec U), .int .i64 0], .int .i64 N, .string (dec N), .int .i64 D, .tuple #[.string (dec U), .int .i64 0], .string (dec U), .int .i64 0, .tuple #[.string (dec T), .int .i64 0], .string (dec 1000000), .int .i64 D, .tuple #[.string (dec T), .int .i64 0], .string (dec T), .int .i64 0, .int .i64 2, .bool true, u34, u35, cwX m14 (.tuple #[.string (dec (5 ^ sc')), .int .i64 0]) (u36), cwX m0 (.slice (some ⟨g, 0, none⟩) 3 3) (u37), cwX m1 (.int .i64 2) (u38), cwX m2 (.pointer (some ⟨g, 2, none⟩)) (u39), cwX m3 (.int .i64 5) (u40), cwX m4 (.string (dec 5)) (u41), cwX m5 (.int .i64 2) (u42), cwX m6 (.pointer (some ⟨w1.heap.size, 2, none⟩)) (u43), cwX m7 (.int .i64 z) (u44), cwX m8 (.int .i64 2) (u45), cwX m9 (.pointer (some ⟨w1.heap.size, 2, none⟩)) (u46), cwX m10 (.int .i64 z) (u47), cwX m11 (.int .i64 (-z)) (u48), cwX m12 (.int .i64 ((sc' : Nat) : Int)) (u49), cwX m13 (.tuple #[.string (dec (5 ^ sc')), .int .i64 0]) (u50), cwX m15 (.string (dec (5 ^ sc'))) (u51), cwX m16 (.int .i64 0) (u52), u53, u54, u55, u56, u57, u58, u59, u60, u61, u62, undef, undef, undef], defers := [] } : Act) ∧ (m2 = true → m0 = true) ∧ Hp w (bif m0 then [(w.heap.size, 49, [.int .i64 a0, .int .i64 b0, .int .i64 a1, .int .i64 b1, .int .i64 a2, .int .i64 b2]), (w1.heap.size, 57, [.int .i64 x, .int .i64 y, .int .i64 z])] ++ [(g, 3, [.int .i64 2, .int .i64 3, .int .i64 5])] else [(w.heap.size, 49, [.int .i64 a0, .int .i64 b0, .int .i64 a1, .int .i64 b1, .int .i64 a2, .int .i64 b2]), (w1.heap.size, 57, [.int .i64 x, .int .i64 y, .int .i64 z])]) W) (by kernel_rfl) (by kernel_rfl) (by kernel_rfl) (by kernel_rfl) ?_ ?_ ?_ ?_
    ·rintro l a W ⟨m0, m1, m2, m3, m4, m5, m6, m7, m8, m9, m10, m11, m12, m13, m14, m15, m16, m17, m18, g, rfl, _⟩
     rfl
    ·exact ⟨false, false, false, false, false, false, false, false, false, false, false, false, false, false, false, false, false, false, false, 0, rfl, rfl, fun h => absurd h (by simp), HM.out.drew⟩
    ·rintro l a W i o ⟨m0, m1, m2, m3, m4, m5, m6, m7, m8, m9, m10, m11, m12, m13, m14, m15, m16, m17, m18, g, rfl, rfl, hi0, hm⟩ ho hun hall K hK
     have hi : i < 19 := (Array.getElem?_eq_some_iff.1 ho).1
     have HM := Lib.hid hm
     have HI := Lib.hid hi0
     clear hm hi0
     rcases (show i = 0 ∨ i = 1 ∨ i = 2 ∨ i = 3 ∨ i = 4 ∨ i = 5 ∨ i = 6 ∨ i = 7 ∨ i = 8 ∨ i = 9 ∨ i = 10 ∨ i = 11 ∨ i = 12 ∨ i = 13 ∨ i = 14 ∨ i = 15 ∨ i = 16 ∨ i = 17 ∨ i = 18 by omega) with rfl | rfl | rfl | rfl | rfl | rfl | rfl | rfl | rfl | rfl | rfl | rfl | rfl | rfl | rfl | rfl | rfl | rfl | rfl
     ·cases ho
      simp at hun; subst hun
      clear hall hi
      obtain rfl : m2 = false := by
       cases m2
       ·rfl
       ·exact absurd (HI.out rfl) (by simp)
      go_simp
      exact hK.out _ _ ⟨true, m1, false, m3, m4, m5, m6, m7, m8, m9, m10, m11, m12, m13, m14, m15, m16, m17, m18, W.heap.size, rfl, rfl, by have h0 := HI.out; exact (fun e => by first | rfl | exact h0 e | cases e), HM.out.new _ _⟩
     ·cases ho
      simp at hun; subst hun
      clear hall hi
      go_simp
      exact hK.out _ _ ⟨m0, true, m2, m3, m4, m5, m6, m7, m8, m9, m10, m11, m12, m13, m14, m15, m16, m17, m18, g, rfl, rfl, by have h0 := HI.out; exact (fun e => by first | rfl | exact h0 e | cases e), HM.out⟩
     ·cases ho
      cases (getBX hall 0 rfl : m0 = true)
      cases (getBX hall 1 rfl : m1 = true)
      simp at hun; subst hun
      clear hall hi
      go_simp
      exact hK.out _ _ ⟨true, true, true, m3, m4, m5, m6, m7, m8, m9, m10, m11, m12, m13, m14, m15, m16, m17, m18, g, rfl, rfl, by have h0 := HI.out; exact (fun e => by first | rfl | exact h0 e | cases e), HM.out⟩
     ·cases ho
      cases (getBX hall 2 rfl : m2 = true)
      obtain rfl : m0 = true := HI.out rfl
      simp at hun; subst hun
      clear hall hi
      obtain ⟨c0, c1, c2⟩ := three_of (HM.out.at_ 2 rfl)
      go_simp
      exact hK.out _ _ ⟨true, m1, true, true, m4, m5, m6, m7, m8, m9, m10, m11, m12, m13, m14, m15, m16, m17, m18, g, rfl, rfl, by have h0 := HI.out; exact (fun e => by first | rfl | exact h0 e | cases e), HM.out⟩
     ·cases ho
      cases (getBX hall 3 rfl : m3 = true)
      simp at hun; subst hun
      clear hall hi
      go_simp
      refine (OF2.out _ (HT.out.below HM.out.below)).mono ?_
      rintro e W' ⟨rfl, hb⟩
      exact hK.out _ _ ⟨m0, m1, m2, true, true, m5, m6, m7, m8, m9, m10, m11, m12, m13, m14, m15, m16, m17, m18, g, rfl, rfl, by have h0 := HI.out; exact (fun e => by first | rfl | exact h0 e | cases e), HM.out.step hb⟩
     ·cases ho
      simp at hun; subst hun
      clear hall hi
      go_simp
      exact hK.out _ _ ⟨m0, m1, m2, m3, m4, true, m6, m7, m8, m9, m10, m11, m12, m13, m14, m15, m16, m17, m18, g, rfl, rfl, by have h0 := HI.out; exact (fun e => by first | rfl | exact h0 e | cases e), HM.out⟩
     ·cases ho
      cases (getBX hall 5 rfl : m5 = true)
      simp at hun; subst hun
      clear hall hi
      go_simp
      exact hK.out _ _ ⟨m0, m1, m2, m3, m4, true, true, m7, m8, m9, m10, m11, m12, m13, m14, m15, m16, m17, m18, g, rfl, rfl, by have h0 := HI.out; exact (fun e => by first | rfl | exact h0 e | cases e), HM.out⟩
     ·cases ho
      cases (getBX hall 6 rfl : m6 = true)
      simp at hun; subst hun
      clear hall hi
      obtain ⟨c0, c1, c2⟩ := three_of (show Blk W w1.heap.size 57 [.int .i64 x, .int .i64 y, .int .i64 z] by cases m0 <;> exact HM.out.at_ 1 rfl)
      go_simp
      exact hK.out _ _ ⟨m0, m1, m2, m3, m4, m5, true, true, m8, m9, m10, m11, m12, m13, m14, m15, m16, m17, m18, g, rfl, rfl, by have h0 := HI.out; exact (fun e => by first | rfl | exact h0 e | cases e), HM.out⟩
     ·cases ho
      simp at hun; subst hun
      clear hall hi
      go_simp
      exact hK.out _ _ ⟨m0, m1, m2, m3, m4, m5, m6, m7, true, m9, m10, m11, m12, m13, m14, m15, m16, m17, m18, g, rfl, rfl, by have h0 := HI.out; exact (fun e => by first | rfl | exact h0 e | cases e), HM.out⟩
     ·cases ho
      cases (getBX hall 8 rfl : m8 = true)
      simp at hun; subst hun
      clear hall hi
      go_simp
      exact hK.out _ _ ⟨m0, m1, m2, m3, m4, m5, m6, m7, true, true, m10, m11, m12, m13, m14, m15, m16, m17, m18, g, rfl, rfl, by have h0 := HI.out; exact (fun e => by first | rfl | exact h0 e | cases e), HM.out⟩
     ·cases ho
      cases (getBX hall 9 rfl : m9 = true)
      simp at hun; subst hun
      clear hall hi
      obtain ⟨c0, c1, c2⟩ := three_of (show Blk W w1.heap.size 57 [.int .i64 x, .int .i64 y, .int .i64 z] by cases m0 <;> exact HM.out.at_ 1 rfl)
      go_simp
      exact hK.out _ _ ⟨m0, m1, m2, m3, m4, m5, m6, m7, m8, true, true, m11, m12, m13, m14, m15, m16, m17, m18, g, rfl, rfl, by have h0 := HI.out; exact (fun e => by first | rfl | exact h0 e | cases e), HM.out⟩
     ·cases ho
      cases (getBX hall 10 rfl : m10 = true)
      simp at hun; subst hun
      clear hall hi
      obtain ⟨f1, f2, f3, f4, f5⟩ := HS.out
      go_simp
      exact hK.out _ _ ⟨m0, m1, m2, m3, m4, m5, m6, m7, m8, m9, true, true, m12, m13, m14, m15, m16, m17, m18, g, rfl, rfl, by have h0 := HI.out; exact (fun e => by first | rfl | exact h0 e | cases e), HM.out⟩
     ·cases ho
      cases (getBX hall 7 rfl : m7 = true)
      cases (getBX hall 11 rfl : m11 = true)
      simp at hun; subst hun
      clear hall hi
      obtain ⟨f1, f2, f3, f4, f5⟩ := HS.out
      go_simp
      exact hK.out _ _ ⟨m0, m1, m2, m3, m4, m5, m6, true, m8, m9, m10, true, true, m13, m14, m15, m16, m17, m18, g, rfl, rfl, by have h0 := HI.out; exact (fun e => by first | rfl | exact h0 e | cases e), HM.out⟩
     ·cases ho
      cases (getBX hall 4 rfl : m4 = true)
      cases (getBX hall 12 rfl : m12 = true)
      simp at hun; subst hun
      clear hall hi
      go_simp
      refine (PB2.out _ (HT.out.below HM.out.below)).mono ?_
      rintro e W' ⟨rfl, hb⟩
      exact hK.out _ _ ⟨m0, m1, m2, m3, true, m5, m6, m7, m8, m9, m10, m11, true, true, m14, m15, m16, m17, m18, g, rfl, rfl, by have h0 := HI.out; exact (fun e => by first | rfl | exact h0 e | cases e), HM.out.step hb⟩
     ·cases ho
      cases (getBX hall 13 rfl : m13 = true)
      simp at hun; subst hun
      clear hall hi
      go_simp
      exact hK.out _ _ ⟨m0, m1, m2, m3, m4, m5, m6, m7, m8, m9, m10, m11, m12, true, true, m15, m16, m17, m18, g, rfl, rfl, by have h0 := HI.out; exact (fun e => by first | rfl | exact h0 e | cases e), HM.out⟩
     ·cases ho
      cases (getBX hall 14 rfl : m14 = true)
      simp at hun; subst hun
      clear hall hi
      go_simp
      exact hK.out _ _ ⟨m0, m1, m2, m3, m4, m5, m6, m7, m8, m9, m10, m11, m12, m13, true, true, m16, m17, m18, g, rfl, rfl, by have h0 := HI.out; exact (fun e => by first | rfl | exact h0 e | cases e), HM.out⟩
     ·cases ho
      cases (getBX hall 14 rfl : m14 = true)
      simp at hun; subst hun
      clear hall hi
      go_simp
      exact hK.out _ _ ⟨m0, m1, m2, m3, m4, m5, m6, m7, m8, m9, m10, m11, m12, m13, true, m15, true, m17, m18, g, rfl, rfl, by have h0 := HI.out; exact (fun e => by first | rfl | exact h0 e | cases e), HM.out⟩
     ·cases ho
      cases (getBX hall 15 rfl : m15 = true)
      simp at hun; subst hun
      clear hall hi
      go_simp
      exact hK.out _ _ ⟨m0, m1, m2, m3, m4, m5, m6, m7, m8, m9, m10, m11, m12, m13, m14, true, m16, true, m18, g, rfl, rfl, by have h0 := HI.out; exact (fun e => by first | rfl | exact h0 e | cases e), HM.out⟩
     ·cases ho
      cases (getBX hall 16 rfl : m16 = true)
      simp at hun; subst hun
      clear hall hi
      go_simp
      exact hK.out _ _ ⟨m0, m1, m2, m3, m4, m5, m6, m7, m8, m9, m10, m11, m12, m13, m14, m15, true, m17, true, g, rfl, rfl, by have h0 := HI.out; exact (fun e => by first | rfl | exact h0 e | cases e), HM.out⟩
    ·rintro l a W ⟨m0, m1, m2, m3, m4, m5, m6, m7, m8, m9, m10, m11, m12, m13, m14, m15, m16, m17, m18, g, rfl, rfl, _, hm⟩ hall
     cases (hall 0 (by decide) : m0 = true)
     cases (hall 1 (by decide) : m1 = true)
     cases (hall 2 (by decide) : m2 = true)
     cases (hall 3 (by decide) : m3 = true)
     cases (hall 4 (by decide) : m4 = true)
     cases (hall 5 (by decide) : m5 = true)
     cases (hall 6 (by decide) : m6 = true)
     cases (hall 7 (by decide) : m7 = true)
     cases (hall 8 (by decide) : m8 = true)
     cases (hall 9 (by decide) : m9 = true)
     cases (hall 10 (by decide) : m10 = true)
     cases (hall 11 (by decide) : m11 = true)
     cases (hall 12 (by decide) : m12 = true)
     cases (hall 13 (by decide) : m13 = true)
     cases (hall 14 (by decide) : m14 = true)
     cases (hall 15 (by decide) : m15 = true)
     cases (hall 16 (by decide) : m16 = true)
     cases (hall 17 (by decide) : m17 = true)
     cases (hall 18 (by decide) : m18 = true)
     clear hall
     have HQ := Lib.hid (show Hp w [(w.heap.size, 49, [.int .i64 a0, .int .i64 b0, .int .i64 a1, .int .i64 b1, .int .i64 a2, .int .i64 b2]), (w1.heap.size, 57, [.int .i64 x, .int .i64 y, .int .i64 z])] _ from hm.sub (List.sublist_append_left _ _))
     clear hm HM
     dsimp only [cwX, cond_true]
     obtain ⟨c0, c1, c2⟩ := three_of (HQ.out.at_ 1 rfl)
     have hs := HS.out.1
     go_wp2_with fail
     refine (MB2.out _ (HT.out.below HQ.out.below)).mono ?_
     rintro e w6 ⟨rfl, hb6⟩
     have HQ2 := Lib.hid (HQ.out.step hb6)
     clear hb6 HQ c0 c1 c2 hs
     go_wp2_with fail
     go_roundw
     case rel => exact ⟨3, by omega, rfl, by rw [rsT_z2 _ _ HS.out.2.2.2.2], rfl, HQ2.out⟩
     case measure => simp [intOf]
  ·clear hk
   go_wp2_with fail
   refine (HCP.out _ (HT.out.below HM.out.below)).mono ?_
   rintro e w6 ⟨rfl, hb6⟩
   have HQ := Lib.hid (HM.out.step hb6)
   clear hb6 HM
   go_wp2_with fail
   exact bodyPost_ret (v := .int .i64 S) (by simp [results, Tryz.results21, go_sem]) rfl ⟨rfl, HQ.out.below⟩
end Go.Proofs.YtendjepcjmfmfaaGreatDoor
