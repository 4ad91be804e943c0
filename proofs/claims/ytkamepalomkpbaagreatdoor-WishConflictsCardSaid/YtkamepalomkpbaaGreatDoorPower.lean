/- Package integer: Power at decimal texts. Conditions: an exponent from 0 to 6000 and at most 24000 digits in all; the library's table of powers of ten reads as its text lays it. -/
import Derived.Test.YtkamepalomkpbaaGreatDoorMul
import Derived.Laws.BitsLemmas
namespace Go.Proofs.YtkamepalomkpbaaGreatDoor
open Go.RowKit

theorem i64_and_nat (a b : Nat) (ha : a < 9223372036854775808) (hb : b < 9223372036854775808) : bits .and .i64 (a : Int) (b : Int) = ((a &&& b : Nat) : Int) := by
  have hx : a &&& b < 2 ^ 63 := Nat.and_lt_two_pow _ (by omega)
  have h1 : (BitVec.ofInt 64 (a : Int)).toNat = a := by
    rw [BitVec.ofInt_natCast, BitVec.toNat_ofNat]; exact Nat.mod_eq_of_lt (by omega)
  have h2 : (BitVec.ofInt 64 (b : Int)).toNat = b := by
    rw [BitVec.ofInt_natCast, BitVec.toNat_ofNat]; exact Nat.mod_eq_of_lt (by omega)
  show IntKind.i64.wrap ((BitVec.ofInt 64 (a : Int) &&& BitVec.ofInt 64 (b : Int)).toNat : Int) = _
  rw [BitVec.toNat_and, h1, h2, IntKind.wrap_i64]
  omega
theorem bit_test (n i : Nat) (hn : n < 9223372036854775808) (hi : 2 ^ i < 9223372036854775808) : (bits .and .i64 (n : Int) ((2 ^ i : Nat) : Int) != 0) = decide (n / 2 ^ i % 2 = 1) := by
  rw [i64_and_nat n _ hn hi, ← Nat.testBit_eq_decide_div_mod_eq]
  cases h : n.testBit i with
  | true =>
    have h1 : (n &&& 2 ^ i).testBit i = true := by rw [Nat.testBit_and, h, Nat.testBit_two_pow_self]; rfl
    have h2 : n &&& 2 ^ i ≠ 0 := fun e => by rw [e] at h1; simp at h1
    rw [bne_iff_ne]; omega
  | false =>
    have h2 : n &&& 2 ^ i = 0 := by
      apply Nat.eq_of_testBit_eq
      intro k
      rw [Nat.testBit_and, Nat.testBit_two_pow, Nat.zero_testBit]
      by_cases e : i = k
      · subst e; simp [h]
      · simp [e]
    rw [h2]; rfl
theorem pow_len (x k : Nat) : (limbs (x ^ k)).length ≤ k * Lib.nDigits x + 1 := by
  refine limbs_len_le _ _ ?_
  have h1 : x ^ k ≤ (10 ^ Lib.nDigits x) ^ k := Nat.pow_le_pow_left (Nat.le_of_lt (Lib.lt_pow_nDigits x)) k
  rw [← Nat.pow_mul, Nat.mul_comm] at h1
  have h2 : (10 : Nat) ^ (k * Lib.nDigits x) ≤ 1000000000 ^ (k * Lib.nDigits x) := Nat.pow_le_pow_left (by decide) _
  have h3 : 0 < 1000000000 ^ (k * Lib.nDigits x) := Nat.pow_pos (by decide)
  rw [Nat.pow_succ]
  omega
/-- The value of the product behind the bits from j on. -/
def powAt (x n j : Nat) : Nat := x ^ (n / 2 ^ j)
theorem powAt_one (x n j : Nat) (h : n / 2 ^ j % 2 = 1) : powAt x n (j + 1) * powAt x n (j + 1) * x = powAt x n j := by
  unfold powAt
  rw [← Nat.pow_add, ← Nat.pow_succ]
  congr 1
  rw [Nat.pow_succ, ← Nat.div_div_eq_div_mul]; omega
theorem powAt_no (x n j : Nat) (h : n / 2 ^ j % 2 = 0) : powAt x n (j + 1) * powAt x n (j + 1) = powAt x n j := by
  unfold powAt
  rw [← Nat.pow_add]
  congr 1
  rw [Nat.pow_succ, ← Nat.div_div_eq_div_mul]; omega
theorem powAt_len (x n j : Nat) (h : n * Lib.nDigits x ≤ 24000) : (limbs (powAt x n j)).length ≤ 24001 := by
  refine Nat.le_trans (pow_len _ _) ?_
  have : n / 2 ^ j * Lib.nDigits x ≤ n * Lib.nDigits x := Nat.mul_le_mul_right _ (Nat.div_le_self _ _)
  omega

theorem pow_sign (a : Int) (n : Nat) : (if (decide (a < 0) && ((n : Int) % 2 == 1)) = true then -((a.natAbs ^ n : Nat) : Int) else ((a.natAbs ^ n : Nat) : Int)) = a ^ n := by
  rw [Int.natCast_pow]
  by_cases ha : a < 0
  · have e1 : (a.natAbs : Int) = -a := by omega
    rw [e1, decide_eq_true ha, Bool.true_and, Int.neg_pow]
    rcases Nat.mod_two_eq_zero_or_one n with h | h
    · have h2 : ((n : Int) % 2 == 1) = false := by rw [beq_eq_false_iff_ne]; omega
      rw [h2, if_neg (by decide), h]; simp
    · have h2 : ((n : Int) % 2 == 1) = true := by rw [beq_iff_eq]; omega
      rw [h2, if_pos rfl, h]; simp
  · have e1 : (a.natAbs : Int) = a := by omega
    rw [e1, decide_eq_false ha, Bool.false_and, if_neg (by decide)]

set_option maxRecDepth 100000 in
set_option maxHeartbeats 1000000 in
theorem power_any (a : Int) (n : Nat) (w : World) (ht : Tab w) (hn : n ≤ 6000) (hd : n * Lib.nDigits a.natAbs ≤ 24000) (hd1 : Lib.nDigits a.natAbs ≤ 24000) :
    Calls Tryz.prog 56 #[.string (dec a), .int .i64 n] w fun e w' => e = .returned (.tuple #[.string (dec (a ^ n)), .int .i64 0]) ∧ Below w.heap.size w w' := by
  obtain ⟨p, hp⟩ : ∃ p, p = decide (a < 0) := ⟨_, rfl⟩
  obtain ⟨M, hM⟩ : ∃ M, M = limbs a.natAbs := ⟨_, rfl⟩
  have hla := Nat.le_trans (limbs_len_digits a.natAbs) hd1
  have hsa : ∀ W, Calls Tryz.prog 65 #[.string (dec a)] W fun e W' => ∃ A cap, e = .returned (.tuple #[.slice A M.length cap, .bool p]) ∧ Rd u64v W' W'.heap.size A M ∧ Below W.heap.size W W' := fun W =>
    (split_any a W (by omega)).mono fun e W' ⟨A, cap, he, hr, _, hb⟩ => ⟨A, cap, by rw [he, hM, hp], by rw [hM]; exact hr, hb⟩
  have htx : ∀ A cap W, Tab W → Rd u64v W W.heap.size A M → Calls Tryz.prog 66 #[.slice A M.length cap] W fun e W' => e = .returned (.string (absS a)) ∧ Below W.heap.size W W' := fun A cap W hT hR => by
    have := text_any a.natAbs A cap W hT (by rw [← hM]; exact hR) (by omega)
    rw [← hM] at this
    refine this.mono fun e W' ⟨he, hb⟩ => ⟨by rw [he, dec_nat]; rfl, hb⟩
  have hsz : (absS a).size = Lib.nDigits a.natAbs := absS_size a
  obtain ⟨s, hs⟩ : ∃ s, s = absS a := ⟨_, rfl⟩
  rw [← hs] at hsz htx
  have hns : (n : Int) * (s.size : Int) ≤ 24000 := by rw [hsz]; have : ((n * Lib.nDigits a.natAbs : Nat) : Int) ≤ 24000 := by omega
                                                      simpa using this
  have hns0 : 0 ≤ (n : Int) * (s.size : Int) := by have : (0 : Int) ≤ ((n * s.size : Nat) : Int) := by omega
                                                   simpa using this
  have HSA := Lib.hid hsa
  have HTX := Lib.hid htx
  have HP := Lib.hid hp
  have HM := Lib.hid hM
  have HLA := Lib.hid hla
  have HD := Lib.hid hd
  clear hsa htx hp hM hla hsz hs hd
  go_enter Tryz.func56, Tryz.ntmps56
  go_wp2_with fail
  refine (HSA.out _).mono ?_
  rintro e w1 ⟨A1, c1, rfl, hr1, hb1⟩
  have ht1 := ht.below hb1
  go_wp2_with fail
  refine (HTX.out _ _ _ ht1 hr1).mono ?_
  rintro e w2 ⟨rfl, hb2⟩
  have hr2 := (hr1.below hb2).more hb2.size
  have hb := hb1.trans (hb2.mono hb1.size)
  clear hb1 hb2 hr1 ht1
  go_wp2_with fail
  go_loopw [8, 9] (fun v b wr => ∃ (j : Nat) (A : Option Addr) (c bt : Nat), j ≤ 14 ∧ b = .int .i64 bt ∧ bt = 2 ^ j / 2 ∧ v = .slice A (limbs (powAt a.natAbs n j)).length c ∧ Rd u64v wr wr.heap.size A (limbs (powAt a.natAbs n j)) ∧ Below w.heap.size w wr ∧ Below w2.heap.size w2 wr)
    (fun _ b _ => (intOf b).toNat)
  case atStart =>
    have e : powAt a.natAbs n 14 = 1 := by
      unfold powAt
      rw [show n / 2 ^ 14 = 0 from Nat.div_eq_of_lt (by omega)]; rfl
    have e1 : limbs 1 = [1] := by rw [limbs_pos (by decide), Nat.div_eq_of_lt (by decide), limbs_zero]
    refine ⟨14, some ⟨w2.heap.size, 0, none⟩, 1, 8192, by omega, rfl, rfl, by rw [e, e1]; rfl, ?_, hb.alloc hb.size _, (Below.refl _ _).alloc (Nat.le_refl _) _⟩
    rw [e, e1]
    exact Blk.rd (t := 103) (L := [1]) (heap_alloc_new w2 _)
  case round =>
    obtain ⟨j, A, c, bt, hj, rfl, hbt, rfl, hr, hbw, hb2⟩ := hrel
    have hr2' := (hr2.below hb2).more hb2.size
    have htw := ht.below hbw
    by_cases hj0 : j = 0
    · subst hj0
      have hb0 : bt = 0 := by rw [hbt]
      subst hb0
      have hl0 := Nat.le_trans (powAt_len a.natAbs n 0 HD.out) (show 24001 ≤ 1000000 by omega)
      have hfin := pow_sign a n
      rw [← HP.out] at hfin
      rw [show powAt a.natAbs n 0 = a.natAbs ^ n by simp [powAt]] at hr hl0 ⊢
      have hsg := signed_any (a.natAbs ^ n) (p && ((n : Int) % 2 == 1)) A c wr htw hr hl0
      rw [hfin] at hsg
      have HSG := Lib.hid hsg
      have HB := Lib.hid hbw
      clear hsg hfin hl0 hr hr2 hr2' hbw hb2 hb htw hbt
      cases p with
      | false =>
        go_wp2_with fail
        refine HSG.out.mono ?_
        rintro e w5 ⟨rfl, hb5⟩
        have HB5 := Lib.hid (HB.out.trans (hb5.mono HB.out.size))
        clear hb5
        go_wp2
        go_ret2
        exact ⟨rfl, HB5.out⟩
      | true =>
        go_wp2_with fail
        refine HSG.out.mono ?_
        rintro e w5 ⟨rfl, hb5⟩
        have HB5 := Lib.hid (HB.out.trans (hb5.mono HB.out.size))
        clear hb5
        go_wp2
        go_ret2
        exact ⟨rfl, HB5.out⟩
    · obtain ⟨i, rfl⟩ : ∃ i, j = i + 1 := ⟨j - 1, by omega⟩
      have hbt' : bt = 2 ^ i := by rw [hbt, Nat.pow_succ]; omega
      have hbp : 0 < bt := by rw [hbt']; exact Nat.pow_pos (by decide)
      have hbm : bt ≤ 8192 := by rw [hbt']; exact Nat.pow_le_pow_right (n := 2) (by decide) (show i ≤ 13 by omega)
      have HBT := Lib.hid hbt'
      have htest := bit_test n i (by omega) (by rw [← hbt']; omega)
      rw [← hbt'] at htest
      clear hbt hbt'
      by_cases hodd : n / bt % 2 = 1
      · rw [decide_eq_true hodd] at htest
        have hlen := Nat.le_trans (powAt_len a.natAbs n (i + 1) HD.out) (show 24001 ≤ 1000000 by omega)
        have hlenm := Nat.le_trans (limbs_len_mul (powAt a.natAbs n (i + 1)) (powAt a.natAbs n (i + 1))) (show _ ≤ 48002 by have := powAt_len a.natAbs n (i + 1) HD.out; omega)
        have HE := Lib.hid (powAt_one a.natAbs n i (by rw [← HBT.out]; exact hodd))
        have HL := Lib.hid hlen
        have HLM := Lib.hid hlenm
        clear hodd hlen hlenm
        go_wp2_with fail
        refine (times_any (limbs (powAt a.natAbs n (i + 1))) (limbs (powAt a.natAbs n (i + 1))) _ _ _ _ _ hr hr (limbs_small _) (limbs_small _) HL.out HL.out).mono ?_
        rw [lv_limbs]
        rintro e w3 ⟨A3, c3, rfl, hr3, _, hb3⟩
        go_wp2_with fail
        have htm := times_any (limbs (powAt a.natAbs n (i + 1) * powAt a.natAbs n (i + 1))) M A3 A1 c3 c1 w3 hr3 ((hr2'.below hb3).more hb3.size) (limbs_small _) (by rw [HM.out]; exact limbs_small _) (Nat.le_trans HLM.out (by omega)) (by rw [HM.out]; exact Nat.le_trans HLA.out (by omega))
        rw [lv_limbs, show lv M = a.natAbs by rw [HM.out, lv_limbs], HE.out] at htm
        refine htm.mono ?_
        rintro e w4 ⟨A4, c4, rfl, hr4, _, hb4⟩
        have hbw4 := (hbw.trans (hb3.mono hbw.size)).trans (hb4.mono (Nat.le_trans hbw.size hb3.size))
        have hb24 := (hb2.trans (hb3.mono hb2.size)).trans (hb4.mono (Nat.le_trans hb2.size hb3.size))
        clear hb3 hb4 hr3 hbw hb2 hr
        go_wp2
        go_roundw
        case rel => exact ⟨i, A4, c4, bt / 2, by omega, by simp, by rw [HBT.out], rfl, hr4, hbw4, hb24⟩
        case measure => simp [intOf]; omega
      · rw [decide_eq_false hodd] at htest
        have hlen := Nat.le_trans (powAt_len a.natAbs n (i + 1) HD.out) (show 24001 ≤ 1000000 by omega)
        have HE := Lib.hid (powAt_no a.natAbs n i (by rw [← HBT.out]; omega))
        have HL := Lib.hid hlen
        clear hodd hlen
        go_wp2_with fail
        refine (times_any (limbs (powAt a.natAbs n (i + 1))) (limbs (powAt a.natAbs n (i + 1))) _ _ _ _ _ hr hr (limbs_small _) (limbs_small _) HL.out HL.out).mono ?_
        rw [lv_limbs, HE.out]
        rintro e w3 ⟨A3, c3, rfl, hr3, _, hb3⟩
        have hbw4 := hbw.trans (hb3.mono hbw.size)
        have hb24 := hb2.trans (hb3.mono hb2.size)
        clear hb3 hbw hb2 hr
        go_wp2
        go_roundw
        case rel => exact ⟨i, A3, c3, bt / 2, by omega, by simp, by rw [HBT.out], rfl, hr3, hbw4, hb24⟩
        case measure => simp [intOf]; omega

end Go.Proofs.YtkamepalomkpbaaGreatDoor
