/- Package integer: Mul and Power at decimal texts. Conditions: Mul: at most half a million digits each; Power: an exponent from 0 to 6000 and at most 24000 digits in all; the library's table of powers of ten reads as its text lays it. -/
import Derived.Test.YtkamepalomkpbaaGreatDoorIntOps
namespace Go.Proofs.YtkamepalomkpbaaGreatDoor
open Go.RowKit

theorem mul_sign (a b : Int) : (if (!decide (a < 0) == decide (b < 0)) = true then -((a.natAbs * b.natAbs : Nat) : Int) else ((a.natAbs * b.natAbs : Nat) : Int)) = a * b := by
  rw [Int.natCast_mul]
  by_cases ha : a < 0 <;> by_cases hb : b < 0
  · have e1 : (a.natAbs : Int) = -a := by omega
    have e2 : (b.natAbs : Int) = -b := by omega
    rw [decide_eq_true ha, decide_eq_true hb, e1, e2, Int.neg_mul_neg]; rfl
  · have e1 : (a.natAbs : Int) = -a := by omega
    have e2 : (b.natAbs : Int) = b := by omega
    rw [decide_eq_true ha, decide_eq_false hb, e1, e2, Int.neg_mul, Int.neg_neg]; rfl
  · have e1 : (a.natAbs : Int) = a := by omega
    have e2 : (b.natAbs : Int) = -b := by omega
    rw [decide_eq_false ha, decide_eq_true hb, e1, e2, Int.mul_neg, Int.neg_neg]; rfl
  · have e1 : (a.natAbs : Int) = a := by omega
    have e2 : (b.natAbs : Int) = b := by omega
    rw [decide_eq_false ha, decide_eq_false hb, e1, e2]; rfl
theorem abs_lt9 {a : Int} (h : Lib.nDigits a.natAbs ≤ 9) : -999999999 ≤ a ∧ a ≤ 999999999 := by
  have h1 := Lib.lt_pow_nDigits a.natAbs
  have h2 : (10 : Nat) ^ Lib.nDigits a.natAbs ≤ 10 ^ 9 := Nat.pow_le_pow_right (by decide) h
  omega

set_option maxRecDepth 100000 in
set_option maxHeartbeats 1000000 in
/-- The way of Mul by limbs, behind the two looks for small integers. -/
theorem mul_any (a b : Int) (w : World) (ht : Tab w) (ha : Lib.nDigits a.natAbs ≤ 500000) (hb : Lib.nDigits b.natAbs ≤ 500000) :
    Calls Tryz.prog 58 #[.string (dec a), .string (dec b)] w fun e w' => e = .returned (.string (dec (a * b))) ∧ Below w.heap.size w w' := by
  have hla := Nat.le_trans (limbs_len_digits a.natAbs) ha
  have hlb := Nat.le_trans (limbs_len_digits b.natAbs) hb
  have hlab : (limbs (a.natAbs * b.natAbs)).length ≤ 1000000 := Nat.le_trans (limbs_len_mul _ _) (by omega)
  have hfin := mul_sign a b
  obtain ⟨p, hp⟩ : ∃ p, p = decide (a < 0) := ⟨_, rfl⟩
  obtain ⟨q, hq⟩ : ∃ q, q = decide (b < 0) := ⟨_, rfl⟩
  rw [← hp, ← hq] at hfin
  obtain ⟨M, hM⟩ : ∃ M, M = limbs a.natAbs := ⟨_, rfl⟩
  obtain ⟨N, hN⟩ : ∃ N, N = limbs b.natAbs := ⟨_, rfl⟩
  have hsa : ∀ W, Calls Tryz.prog 65 #[.string (dec a)] W fun e W' => ∃ A cap, e = .returned (.tuple #[.slice A M.length cap, .bool p]) ∧ Rd u64v W' W'.heap.size A M ∧ Below W.heap.size W W' := fun W =>
    (split_any a W (by omega)).mono fun e W' ⟨A, cap, he, hr, _, hb⟩ => ⟨A, cap, by rw [he, hM, hp], by rw [hM]; exact hr, hb⟩
  have hsb : ∀ W, Calls Tryz.prog 65 #[.string (dec b)] W fun e W' => ∃ A cap, e = .returned (.tuple #[.slice A N.length cap, .bool q]) ∧ Rd u64v W' W'.heap.size A N ∧ Below W.heap.size W W' := fun W =>
    (split_any b W (by omega)).mono fun e W' ⟨A, cap, he, hr, _, hb⟩ => ⟨A, cap, by rw [he, hN, hq], by rw [hN]; exact hr, hb⟩
  have hlM : lv M = a.natAbs := by rw [hM, lv_limbs]
  have hlN : lv N = b.natAbs := by rw [hN, lv_limbs]
  have hsM : Small M := by rw [hM]; exact limbs_small _
  have hsN : Small N := by rw [hN]; exact limbs_small _
  rw [← hM] at hla
  rw [← hN] at hlb
  have htm : ∀ (A1 A2 : Option Addr) (c1 c2 : Nat) W, Rd u64v W W.heap.size A1 M → Rd u64v W W.heap.size A2 N → Calls Tryz.prog 67 #[.slice A1 M.length c1, .slice A2 N.length c2] W (RetMag (a.natAbs * b.natAbs) W) := fun A1 A2 c1 c2 W h1 h2 => by
    have := times_any M N A1 A2 c1 c2 W h1 h2 hsM hsN (by omega) (by omega)
    rwa [hlM, hlN] at this
  have HSA := Lib.hid hsa
  have HSB := Lib.hid hsb
  have HTM := Lib.hid htm
  have HFIN := Lib.hid hfin
  have HLAB := Lib.hid hlab
  clear hsa hsb htm hfin hlab hM hN hp hq hlM hlN hsM hsN
  have tail : ∀ W, Tab W → True := fun _ _ => trivial
  clear tail
  by_cases h9a : Lib.nDigits a.natAbs ≤ 9
  · by_cases h9b : Lib.nDigits b.natAbs ≤ 9
    · obtain ⟨ba0, ba1⟩ := abs_lt9 h9a
      obtain ⟨bb0, bb1⟩ := abs_lt9 h9b
      have hab : -999999998000000001 ≤ a * b ∧ a * b ≤ 999999998000000001 := by
        have h1 : (a * b).natAbs ≤ 999999999 * 999999999 := by rw [Int.natAbs_mul]; exact Nat.mul_le_mul (by omega) (by omega)
        omega
      obtain ⟨hab0, hab1⟩ := hab
      go_enter Tryz.func58, Tryz.ntmps58
      go_wp2_with fail
      refine (quick_yes a 9 _ (by omega) (by omega)).mono ?_
      rintro e w1 ⟨rfl, hb1⟩
      have ht1 := ht.below hb1
      go_wp2_with fail
      refine (quick_yes b 9 _ (by omega) (by omega)).mono ?_
      rintro e w2 ⟨rfl, hb2⟩
      have ht2 := ht1.below hb2
      go_wp2_with fail
      refine (of_any (a * b) (by omega) (by omega) _ ht2).mono ?_
      rintro e w3 ⟨rfl, hb3⟩
      have hb := (hb1.trans (hb2.mono hb1.size)).trans (hb3.mono (Nat.le_trans hb1.size hb2.size))
      clear hb1 hb2 hb3
      go_wp2
      go_ret
      exact ⟨rfl, hb⟩
    · go_enter Tryz.func58, Tryz.ntmps58
      go_wp2_with fail
      refine (quick_yes a 9 _ (by omega) (by omega)).mono ?_
      rintro e w1 ⟨rfl, hb1⟩
      go_wp2_with fail
      refine (quick_no b 9 _ (by omega) (by omega)).mono ?_
      rintro e w2 ⟨rfl, rfl⟩
      go_wp2_with fail
      refine (HSA.out _).mono ?_
      rintro e w2 ⟨A1, c1, rfl, hr1, hb2⟩
      have hbb := hb1.trans (hb2.mono hb1.size)
      clear hb1 hb2
      go_wp2_with fail
      refine (HSB.out _).mono ?_
      rintro e w3 ⟨A2, c2, rfl, hr2, hb3⟩
      have hr1 := (hr1.below hb3).more hb3.size
      have hb4 := hbb.trans (hb3.mono hbb.size)
      clear hb3 hbb
      go_wp2_with fail
      refine (HTM.out _ _ _ _ _ hr1 hr2).mono ?_
      rintro e w5 ⟨A, cap, rfl, hr, hc, hb5⟩
      have hb6 := hb4.trans (hb5.mono hb4.size)
      clear hb5 hb4 hr1 hr2 hc
      go_wp2_with fail
      have ht6 := ht.below hb6
      refine (signed_any _ _ A cap _ ht6 hr HLAB.out).mono ?_
      rintro e w7 ⟨rfl, hb7⟩
      have hb8 := hb6.trans (hb7.mono hb6.size)
      clear hb6 hb7 hr
      rw [HFIN.out]
      go_wp2
      go_ret
      exact ⟨rfl, hb8⟩
  · go_enter Tryz.func58, Tryz.ntmps58
    go_wp2_with fail
    refine (quick_no a 9 _ (by omega) (by omega)).mono ?_
    rintro e w2 ⟨rfl, rfl⟩
    go_wp2_with fail
    refine (HSA.out _).mono ?_
    rintro e w2 ⟨A1, c1, rfl, hr1, hbb⟩
    go_wp2_with fail
    refine (HSB.out _).mono ?_
    rintro e w3 ⟨A2, c2, rfl, hr2, hb3⟩
    have hr1 := (hr1.below hb3).more hb3.size
    have hb4 := hbb.trans (hb3.mono hbb.size)
    clear hb3 hbb
    go_wp2_with fail
    refine (HTM.out _ _ _ _ _ hr1 hr2).mono ?_
    rintro e w5 ⟨A, cap, rfl, hr, hc, hb5⟩
    have hb6 := hb4.trans (hb5.mono hb4.size)
    clear hb5 hb4 hr1 hr2 hc
    go_wp2_with fail
    have ht6 := ht.below hb6
    refine (signed_any _ _ A cap _ ht6 hr HLAB.out).mono ?_
    rintro e w7 ⟨rfl, hb7⟩
    have hb8 := hb6.trans (hb7.mono hb6.size)
    clear hb6 hb7 hr
    rw [HFIN.out]
    go_wp2
    go_ret
    exact ⟨rfl, hb8⟩

end Go.Proofs.YtkamepalomkpbaaGreatDoor
