/- Package integer: Sign, Compare, Mul and Power at decimal texts. Conditions: the integers have at most half a million digits (Power: its own bounds); the library's table of powers of ten reads as its text lays it. Package integer: Mul and Power at decimal texts. Conditions: Mul: at most half a million digits each; Power: an exponent from 0 to 6000 and at most 24000 digits in all; the library's table of powers of ten reads as its text lays it. -/
import Derived.Test.YtplonkeipdbchaaGreatDoorInt
import Derived.BigQuiet
namespace Go.Proofs.YtplonkeipdbchaaGreatDoor
section
open Go.RowKit

theorem prefix_dec (z : Int) (w : World) : Calls Tryz.prog 86 #[.string (dec z), .string ⟨#[45]⟩] w fun e w' => e = .returned (.bool (decide (z < 0))) ∧ w = w' :=
  (Tryz.strings_HasPrefix (dec z) ⟨#[45]⟩ w).mono fun e w' ⟨he, hw⟩ => ⟨by
    rw [he]
    have e1 : (⟨#[45]⟩ : ByteArray).data.toList = [45] := rfl
    rw [e1, dec_hasPrefix], hw.symm⟩

set_option maxRecDepth 100000 in
theorem sign_any (z : Int) (w : World) :
    Calls Tryz.prog 69 #[.string (dec z)] w fun e w' => e = .returned (.int .i64 (sgn z)) ∧ w = w' := by
  have h0 := dec_is0 z
  rcases sgn_cases z with ⟨h1, h2⟩ | ⟨h1, h2⟩ | ⟨h1, h2⟩
  · rw [decide_eq_false (by omega)] at h0
    have H2 := Lib.hid h2
    clear h2
    go_enter Tryz.func69, Tryz.ntmps69
    go_wp2_with fail
    refine (prefix_dec z _).mono ?_
    rintro e w' ⟨rfl, rfl⟩
    rw [decide_eq_true h1]
    go_wp2
    go_ret
    exact ⟨ret_int H2.out.symm, rfl⟩
  · rw [decide_eq_true h1] at h0
    have H2 := Lib.hid h2
    clear h2 h1
    go_enter Tryz.func69, Tryz.ntmps69
    go_wp2
    go_ret
    exact ⟨ret_int H2.out.symm, rfl⟩
  · rw [decide_eq_false (by omega)] at h0
    have H2 := Lib.hid h2
    clear h2
    go_enter Tryz.func69, Tryz.ntmps69
    go_wp2_with fail
    refine (prefix_dec z _).mono ?_
    rintro e w' ⟨rfl, rfl⟩
    rw [decide_eq_false (by omega)]
    go_wp2
    go_ret
    exact ⟨ret_int H2.out.symm, rfl⟩

set_option maxRecDepth 100000 in
set_option maxHeartbeats 1000000 in
theorem compare_any (a b : Int) (w : World) (ha : Lib.nDigits a.natAbs ≤ 1000000000) (hb : Lib.nDigits b.natAbs ≤ 1000000000) :
    Calls Tryz.prog 71 #[.string (dec a), .string (dec b)] w fun e w' => e = .returned (.int .i64 (sgn (a - b))) ∧ w = w' := by
  obtain ⟨s, hs⟩ : ∃ s, s = sgn a := ⟨_, rfl⟩
  obtain ⟨t, ht⟩ : ∃ t, t = sgn b := ⟨_, rfl⟩
  have hs1 := sgn_bd a
  have ht1 := sgn_bd b
  rw [← hs] at hs1
  rw [← ht] at ht1
  obtain ⟨hs0, hs2⟩ := hs1
  obtain ⟨ht0, ht2⟩ := ht1
  obtain ⟨x, hx⟩ : ∃ x, x = absS a := ⟨_, rfl⟩
  obtain ⟨y, hy⟩ : ∃ y, y = absS b := ⟨_, rfl⟩
  have hxs : x.size ≤ 1000000000 := by rw [hx, absS_size]; exact ha
  have hys : y.size ≤ 1000000000 := by rw [hy, absS_size]; exact hb
  have hxd : x.size = Lib.nDigits a.natAbs := by rw [hx, absS_size]
  have hyd : y.size = Lib.nDigits b.natAbs := by rw [hy, absS_size]
  have HS := Lib.hid hs
  have HT := Lib.hid ht
  have HX := Lib.hid hx
  have HY := Lib.hid hy
  have HXD := Lib.hid hxd
  have HYD := Lib.hid hyd
  clear hs ht hx hy hxd hyd ha hb
  rcases Int.lt_trichotomy s t with h | h | h
  · have hr : sgn (a - b) = -1 := sgn_lt (by rw [← HS.out, ← HT.out]; exact h)
    have HR := Lib.hid hr
    clear hr
    go_enter Tryz.func71, Tryz.ntmps71
    go_wp2_with fail
    refine (sign_any a _).mono ?_
    rintro e w' ⟨rfl, rfl⟩
    rw [← HS.out]
    go_wp2_with fail
    refine (sign_any b _).mono ?_
    rintro e w' ⟨rfl, rfl⟩
    rw [← HT.out]
    go_wp2
    go_ret
    exact ⟨ret_int HR.out.symm, rfl⟩
  · subst h
    have hst : sgn a = sgn b := by rw [← HS.out, ← HT.out]
    have hcb := compare_bd x.data.toList y.data.toList
    obtain ⟨c, hc⟩ : ∃ c, c = Lib.compareBytes x.data.toList y.data.toList := ⟨_, rfl⟩
    rw [← hc] at hcb
    obtain ⟨hc0, hc1⟩ := hcb
    have HC := Lib.hid hc
    clear hc
    have hsc : -1 ≤ s * c ∧ s * c ≤ 1 := by
      have h1 : s = -1 ∨ s = 0 ∨ s = 1 := by omega
      rcases h1 with rfl | rfl | rfl <;> omega
    obtain ⟨hsc0, hsc1⟩ := hsc
    have hcmp : ∀ W, Calls Tryz.prog 92 #[.string x, .string y] W fun e w' => e = .returned (.int .i64 c) ∧ W = w' := fun W =>
      (Tryz.strings_Compare x y W).mono fun e w' ⟨he, hw⟩ => ⟨by rw [he, HC.out], hw.symm⟩
    have HCMP := Lib.hid hcmp
    have HST := Lib.hid hst
    clear hcmp hst
    rcases Nat.lt_trichotomy x.size y.size with h | h | h
    · have hr : sgn (a - b) = -s := by rw [HS.out]; exact cmp_short HST.out (abs_lt_of_digits (by rw [← HXD.out, ← HYD.out]; exact h))
      have HR := Lib.hid hr
      clear hr
      go_enter Tryz.func71, Tryz.ntmps71
      go_wp2_with fail
      refine (sign_any a _).mono ?_
      rintro e w' ⟨rfl, rfl⟩
      rw [← HS.out]
      go_wp2_with fail
      refine (sign_any b _).mono ?_
      rintro e w' ⟨rfl, rfl⟩
      rw [← HT.out]
      go_wp2_with fail
      refine (cut_dec a _).mono ?_
      rintro e w' ⟨rfl, rfl⟩
      rw [← HX.out]
      go_wp2_with fail
      refine (cut_dec b _).mono ?_
      rintro e w' ⟨rfl, rfl⟩
      rw [← HY.out]
      go_wp2
      go_ret
      exact ⟨ret_int HR.out.symm, rfl⟩
    · have hr : sgn (a - b) = s * c := by
        rw [HC.out, HX.out, HY.out, HS.out]
        exact (cmp_even HST.out (by rw [← HXD.out, ← HYD.out]; exact h)).symm
      have HR := Lib.hid hr
      have h1 : ¬ x.size < y.size := by omega
      have h2 : ¬ y.size < x.size := by omega
      clear hr h
      go_enter Tryz.func71, Tryz.ntmps71
      go_wp2_with fail
      refine (sign_any a _).mono ?_
      rintro e w' ⟨rfl, rfl⟩
      rw [← HS.out]
      go_wp2_with fail
      refine (sign_any b _).mono ?_
      rintro e w' ⟨rfl, rfl⟩
      rw [← HT.out]
      go_wp2_with fail
      refine (cut_dec a _).mono ?_
      rintro e w' ⟨rfl, rfl⟩
      rw [← HX.out]
      go_wp2_with fail
      refine (cut_dec b _).mono ?_
      rintro e w' ⟨rfl, rfl⟩
      rw [← HY.out]
      go_wp2_with fail
      refine (HCMP.out _).mono ?_
      rintro e w' ⟨rfl, rfl⟩
      go_wp2
      go_ret
      exact ⟨ret_int HR.out.symm, rfl⟩
    · have hr : sgn (a - b) = s := by rw [HS.out]; exact cmp_long HST.out (abs_lt_of_digits (by rw [← HXD.out, ← HYD.out]; exact h))
      have HR := Lib.hid hr
      clear hr
      go_enter Tryz.func71, Tryz.ntmps71
      go_wp2_with fail
      refine (sign_any a _).mono ?_
      rintro e w' ⟨rfl, rfl⟩
      rw [← HS.out]
      go_wp2_with fail
      refine (sign_any b _).mono ?_
      rintro e w' ⟨rfl, rfl⟩
      rw [← HT.out]
      go_wp2_with fail
      refine (cut_dec a _).mono ?_
      rintro e w' ⟨rfl, rfl⟩
      rw [← HX.out]
      go_wp2_with fail
      refine (cut_dec b _).mono ?_
      rintro e w' ⟨rfl, rfl⟩
      rw [← HY.out]
      go_wp2
      go_ret
      exact ⟨ret_int HR.out.symm, rfl⟩
  · have hr : sgn (a - b) = 1 := sgn_gt (by rw [← HS.out, ← HT.out]; exact h)
    have HR := Lib.hid hr
    clear hr
    go_enter Tryz.func71, Tryz.ntmps71
    go_wp2_with fail
    refine (sign_any a _).mono ?_
    rintro e w' ⟨rfl, rfl⟩
    rw [← HS.out]
    go_wp2_with fail
    refine (sign_any b _).mono ?_
    rintro e w' ⟨rfl, rfl⟩
    rw [← HT.out]
    go_wp2
    go_ret
    exact ⟨ret_int HR.out.symm, rfl⟩
end

section
open Go.RowKit

theorem mul_sign (a b : Int) : (if (!decide (a < 0) == decide (b < 0)) = true then -((a.natAbs * b.natAbs : Nat) : Int) else ((a.natAbs * b.natAbs : Nat) : Int)) = a * b := by
  rw [Int.natCast_mul]
  by_cases ha : a < 0 <;> by_cases hb : b < 0
  · have e1 : (a.natAbs : Int) = -a := by omega
    have e2 : (b.natAbs : Int) = -b := by omega
    rw [decide_eq_true ha, decide_eq_true hb, e1, e2, Int.neg_mul_neg]; rfl
  · have e1 : (a.natAbs : Int) = -a := by omega
    have e2 : (b.natAbs : Int) = b := by omega
    rw [decide_eq_true ha, decide_eq_false hb, e1, e2, Int.neg_mul, Int.neg_neg]; rfl
  · have e1 : (a.natAbs : Int) = a := by omega
    have e2 : (b.natAbs : Int) = -b := by omega
    rw [decide_eq_false ha, decide_eq_true hb, e1, e2, Int.mul_neg, Int.neg_neg]; rfl
  · have e1 : (a.natAbs : Int) = a := by omega
    have e2 : (b.natAbs : Int) = b := by omega
    rw [decide_eq_false ha, decide_eq_false hb, e1, e2]; rfl
theorem abs_lt9 {a : Int} (h : Lib.nDigits a.natAbs ≤ 9) : -999999999 ≤ a ∧ a ≤ 999999999 := by
  have h1 := Lib.lt_pow_nDigits a.natAbs
  have h2 : (10 : Nat) ^ Lib.nDigits a.natAbs ≤ 10 ^ 9 := Nat.pow_le_pow_right (by decide) h
  omega

set_option maxRecDepth 100000 in
set_option maxHeartbeats 1000000 in
/-- The way of Mul by limbs, behind the two looks for small integers. -/
theorem mul_any (a b : Int) (w : World) (ht : Tab w) (ha : Lib.nDigits a.natAbs ≤ 500000) (hb : Lib.nDigits b.natAbs ≤ 500000) :
    Calls Tryz.prog 27 #[.string (dec a), .string (dec b)] w fun e w' => e = .returned (.string (dec (a * b))) ∧ Below w.heap.size w w' := by
  have hla := Nat.le_trans (limbs_len_digits a.natAbs) ha
  have hlb := Nat.le_trans (limbs_len_digits b.natAbs) hb
  have hlab : (limbs (a.natAbs * b.natAbs)).length ≤ 1000000 := Nat.le_trans (limbs_len_mul _ _) (by omega)
  have hfin := mul_sign a b
  obtain ⟨p, hp⟩ : ∃ p, p = decide (a < 0) := ⟨_, rfl⟩
  obtain ⟨q, hq⟩ : ∃ q, q = decide (b < 0) := ⟨_, rfl⟩
  rw [← hp, ← hq] at hfin
  obtain ⟨M, hM⟩ : ∃ M, M = limbs a.natAbs := ⟨_, rfl⟩
  obtain ⟨N, hN⟩ : ∃ N, N = limbs b.natAbs := ⟨_, rfl⟩
  have hsa : ∀ W, Calls Tryz.prog 54 #[.string (dec a)] W fun e W' => ∃ A cap, e = .returned (.tuple #[.slice A M.length cap, .bool p]) ∧ Rd u64v W' W'.heap.size A M ∧ Below W.heap.size W W' := fun W =>
    (split_any a W (by omega)).mono fun e W' ⟨A, cap, he, hr, _, hb⟩ => ⟨A, cap, by rw [he, hM, hp], by rw [hM]; exact hr, hb⟩
  have hsb : ∀ W, Calls Tryz.prog 54 #[.string (dec b)] W fun e W' => ∃ A cap, e = .returned (.tuple #[.slice A N.length cap, .bool q]) ∧ Rd u64v W' W'.heap.size A N ∧ Below W.heap.size W W' := fun W =>
    (split_any b W (by omega)).mono fun e W' ⟨A, cap, he, hr, _, hb⟩ => ⟨A, cap, by rw [he, hN, hq], by rw [hN]; exact hr, hb⟩
  have hlM : lv M = a.natAbs := by rw [hM, lv_limbs]
  have hlN : lv N = b.natAbs := by rw [hN, lv_limbs]
  have hsM : Small M := by rw [hM]; exact limbs_small _
  have hsN : Small N := by rw [hN]; exact limbs_small _
  rw [← hM] at hla
  rw [← hN] at hlb
  have htm : ∀ (A1 A2 : Option Addr) (c1 c2 : Nat) W, Rd u64v W W.heap.size A1 M → Rd u64v W W.heap.size A2 N → Calls Tryz.prog 56 #[.slice A1 M.length c1, .slice A2 N.length c2] W (RetMag (a.natAbs * b.natAbs) W) := fun A1 A2 c1 c2 W h1 h2 => by
    have := times_any M N A1 A2 c1 c2 W h1 h2 hsM hsN (by omega) (by omega)
    rwa [hlM, hlN] at this
  have HSA := Lib.hid hsa
  have HSB := Lib.hid hsb
  have HTM := Lib.hid htm
  have HFIN := Lib.hid hfin
  have HLAB := Lib.hid hlab
  clear hsa hsb htm hfin hlab hM hN hp hq hlM hlN hsM hsN
  have tail : ∀ W, Tab W → True := fun _ _ => trivial
  clear tail
  by_cases h9a : Lib.nDigits a.natAbs ≤ 9
  · by_cases h9b : Lib.nDigits b.natAbs ≤ 9
    · obtain ⟨ba0, ba1⟩ := abs_lt9 h9a
      obtain ⟨bb0, bb1⟩ := abs_lt9 h9b
      have hab : -999999998000000001 ≤ a * b ∧ a * b ≤ 999999998000000001 := by
        have h1 : (a * b).natAbs ≤ 999999999 * 999999999 := by rw [Int.natAbs_mul]; exact Nat.mul_le_mul (by omega) (by omega)
        omega
      obtain ⟨hab0, hab1⟩ := hab
      go_enter Tryz.func27, Tryz.ntmps27
      go_wp2_with fail
      refine (quick_yes a 9 _ (by omega) (by omega)).mono ?_
      rintro e w1 ⟨rfl, hb1⟩
      have ht1 := ht.below hb1
      go_wp2_with fail
      refine (quick_yes b 9 _ (by omega) (by omega)).mono ?_
      rintro e w2 ⟨rfl, hb2⟩
      have ht2 := ht1.below hb2
      go_wp2_with fail
      refine (of_any (a * b) (by omega) (by omega) _ ht2).mono ?_
      rintro e w3 ⟨rfl, hb3⟩
      have hb := (hb1.trans (hb2.mono hb1.size)).trans (hb3.mono (Nat.le_trans hb1.size hb2.size))
      clear hb1 hb2 hb3
      go_wp2
      go_ret
      exact ⟨rfl, hb⟩
    · go_enter Tryz.func27, Tryz.ntmps27
      go_wp2_with fail
      refine (quick_yes a 9 _ (by omega) (by omega)).mono ?_
      rintro e w1 ⟨rfl, hb1⟩
      go_wp2_with fail
      refine (quick_no b 9 _ (by omega) (by omega)).mono ?_
      rintro e w2 ⟨rfl, rfl⟩
      go_wp2_with fail
      refine (HSA.out _).mono ?_
      rintro e w2 ⟨A1, c1, rfl, hr1, hb2⟩
      have hbb := hb1.trans (hb2.mono hb1.size)
      clear hb1 hb2
      go_wp2_with fail
      refine (HSB.out _).mono ?_
      rintro e w3 ⟨A2, c2, rfl, hr2, hb3⟩
      have hr1 := (hr1.below hb3).more hb3.size
      have hb4 := hbb.trans (hb3.mono hbb.size)
      clear hb3 hbb
      go_wp2_with fail
      refine (HTM.out _ _ _ _ _ hr1 hr2).mono ?_
      rintro e w5 ⟨A, cap, rfl, hr, hc, hb5⟩
      have hb6 := hb4.trans (hb5.mono hb4.size)
      clear hb5 hb4 hr1 hr2 hc
      go_wp2_with fail
      have ht6 := ht.below hb6
      refine (signed_any _ _ A cap _ ht6 hr HLAB.out).mono ?_
      rintro e w7 ⟨rfl, hb7⟩
      have hb8 := hb6.trans (hb7.mono hb6.size)
      clear hb6 hb7 hr
      rw [HFIN.out]
      go_wp2
      go_ret
      exact ⟨rfl, hb8⟩
  · go_enter Tryz.func27, Tryz.ntmps27
    go_wp2_with fail
    refine (quick_no a 9 _ (by omega) (by omega)).mono ?_
    rintro e w2 ⟨rfl, rfl⟩
    go_wp2_with fail
    refine (HSA.out _).mono ?_
    rintro e w2 ⟨A1, c1, rfl, hr1, hbb⟩
    go_wp2_with fail
    refine (HSB.out _).mono ?_
    rintro e w3 ⟨A2, c2, rfl, hr2, hb3⟩
    have hr1 := (hr1.below hb3).more hb3.size
    have hb4 := hbb.trans (hb3.mono hbb.size)
    clear hb3 hbb
    go_wp2_with fail
    refine (HTM.out _ _ _ _ _ hr1 hr2).mono ?_
    rintro e w5 ⟨A, cap, rfl, hr, hc, hb5⟩
    have hb6 := hb4.trans (hb5.mono hb4.size)
    clear hb5 hb4 hr1 hr2 hc
    go_wp2_with fail
    have ht6 := ht.below hb6
    refine (signed_any _ _ A cap _ ht6 hr HLAB.out).mono ?_
    rintro e w7 ⟨rfl, hb7⟩
    have hb8 := hb6.trans (hb7.mono hb6.size)
    clear hb6 hb7 hr
    rw [HFIN.out]
    go_wp2
    go_ret
    exact ⟨rfl, hb8⟩
end
end Go.Proofs.YtplonkeipdbchaaGreatDoor
